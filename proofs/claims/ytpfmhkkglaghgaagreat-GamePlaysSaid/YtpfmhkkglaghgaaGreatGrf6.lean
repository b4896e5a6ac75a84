/-
  The reference's play: one move.
-/
import Derived.Test.YtpfmhkkglaghgaaGreatGrf2
import Derived.Deep.CutBlock
namespace Go.Proofs.YtpfmhkkglaghgaaGreat
set_option linter.unusedSimpArgs false
set_option linter.unusedVariables false
set_option linter.unnecessarySimpa false
open Go.RowKit

theorem infoInt3 : (Tryz.prog.info? 3).map (fun i => (i.zero, i.size, i.bytes)) = some (some (.int .i64 0), 1, 8) := by kernel_rfl
/-- A move that goes on; one that ends it. -/
def StN (g : Gm) (k : Nat) (m : Mv) (j : Nat) (vv : Int) (s : LS) (gs : GS) (lv : List Vd) (li : List Nat) (vv' : Int) (s' : LS) (gs' : GS) (lv' : List Vd) (li' : List Nat) : Prop :=
  (m.claim = 0 ∧ vv' = vv ∧ s' = s ∧ gs' = gs ∧ lv' = lv ∧ li' = li) ∨
  (m.claim ≠ 0 ∧ ∃ o, o = gs.take s (putAckP (frameD g k m vv)) 0 ∧ o.v.kind ≠ 3 ∧ vv' = foldV vv o.v.kind ∧ s' = o.s ∧ gs' = o.g ∧ lv' = lv ++ [o.v] ∧ li' = li ++ [j])
def StX (g : Gm) (k : Nat) (m : Mv) (j : Nat) (vv : Int) (s : LS) (gs : GS) (lv : List Vd) (li : List Nat) (lv' : List Vd) (li' : List Nat) : Prop :=
  m.claim ≠ 0 ∧ ∃ o, o = gs.take s (putAckP (frameD g k m vv)) 0 ∧ o.v.kind = 3 ∧ lv' = lv ++ [o.v] ∧ li' = li ++ [j]
noncomputable def playT3Code : Code := (Tryz.f19.body.bind (pickCode (isBlk 5))).getD .skip
set_option maxHeartbeats 64000000 in
set_option maxRecDepth 1000000 in
theorem playT3 {u0 u1 u3 u4 u8 u9 u11 u12 u16 u17 u18 u19 u20 u21 u22 u23 u24 u25 u26 u27 u28 u29 u30 u31 u32 u33 u34 u35 u36 u37 u38 u39 u40 u41 u42 u43 u44 u45 u46 u47 u48 u49 u50 u51 u52 u53 u54 u55 u56 u57 u58 u59 u60 u61 u62 u63 u64 u65 u66 u67 u68 u69 u70 u71 u72 u73 u74 u75 u76 u77 u78 u79 u80 u81 u82 u83 u84 u85 u86 u87 u88 u89 u90 u91 u92 u93 u94 u95 u96 u97 u98 u99 u100 u101 u102 u103 u104 u105 u106 u107 u108 u109 u110 u111 u112 u113 u114 u115 u116 u117 u118 u119 u120 u121 u122 u123 u124 u125 u126 u127 u128 u129 u130 u131 u132 u133 u134 u135 u136 u137 u138 u139 u140 u141 u142 u143 u144 u145 u146 u147 u148 u149 u150 u151 u152 u153 u154 u155 u156 u157 u158 u159 u160 u161 u162 u163 u164 u165 u166 u167 u168 u169 u170 u171 u172 u173 u174 u175 u176 u177 u178 u179 u180 u181 u182 u183 u184 u185 u186 u187 u188 u189 u190 u191 u192 u193 u194 u195 u196 u197 u198 u199 u200 u201 u202 u203 u204 u205 u206 u207 u208 u209 u210 u211 u212 u213 u214 u215 u216 u217 u218 u219 u220 u221 u222 u223 u224 u225 : Value} {m : Mv} {g : Gm} {A : Option Addr} {c k X P q j : Nat} {V M : Value} {lv : List Vd} {li : List Nat} {vv : Int} {s : LS} {gs : GS} {w : World} {Q : Exit → Act → World → Prop} {wr : World}
    (S : Hid (PlJ w g k A c X P (P + 1) q V M lv li vv s gs wr)) (GO : Hid g.ok) (HR : Hid (Rd w 6 A g.moves.length c (Mvs g.moves))) (hlt : j < g.moves.length) (hmj : Hid (g.moves[j] = m)) (hlv : lv.length ≤ 8) (hli : li.length ≤ 8)
    (hQ : Hid (∀ (V' : Value) (M' : Value) (vv' : Int) (s' : LS) (gs' : GS) (lv' : List Vd) (li' : List Nat) (x99 x100 x101 x102 x103 x104 x105 x106 x107 x108 x109 x110 x111 x112 x113 x114 x115 x116 x117 x118 x119 x120 x121 x122 x123 x124 x125 x126 x127 x128 x129 x130 x131 x132 x133 x134 x135 x136 x137 x138 x139 x140 x141 x142 x143 x144 x145 x146 x147 x148 x149 x150 x151 x152 x153 x154 x155 x156 x157 x158 x159 x160 x161 x162 x163 x164 x165 x166 x167 x168 x169 x170 x171 x172 x173 x174 x175 x176 x177 x178 x179 x180 x181 x182 x183 x184 x185 x186 x187 x188 x189 x190 x191 x192 x193 x194 x195 x196 x197 x198 x199 x200 x201 x202 x203 x204 x205 x206 x207 x208 x209 x210 x211 x212 x213 x214 x215 x216 x217 x218 x219 x220 x221 x222 x223 x224 x16 x17 x18 x19 x20 : Value) (wx : World), Hid (StN g k m j vv s gs lv li vv' s' gs' lv' li' ∧ PlJ w g k A c X P (P + 1) q V' M' lv' li' vv' s' gs' wx) → Q .normal ⟨#[u0, u1, .pointer (some ⟨w.heap.size, 0, none⟩), u3, u4, .pointer (some ⟨w.heap.size + 2, 0, none⟩), .pointer (some ⟨X, 0, none⟩), .pointer (some ⟨X + 1, 0, none⟩), u8, u9, .int .u64 vv', u11, u12, .pointer (some ⟨q, 0, none⟩), .pointer (some ⟨P, 0, none⟩), .int .i64 j, x16, x17, x18, x19, x20, u21, u22, u23, u24, u25, u26, u27, u28, u29, u30, u31, u32, u33, u34, u35, u36, u37, u38, u39, u40, u41, u42, u43, u44, u45, u46, u47, u48, u49, u50, u51, u52, u53, u54, u55, u56, u57, u58, u59, u60, u61, u62, u63, u64, u65, u66, u67, u68, u69, u70, u71, u72, u73, u74, u75, u76, u77, u78, u79, u80, u81, u82, u83, u84, u85, u86, u87, u88, u89, u90, u91, u92, u93, u94, u95, u96, u97, u98, x99, x100, x101, x102, x103, x104, x105, x106, x107, x108, x109, x110, x111, x112, x113, x114, x115, x116, x117, x118, x119, x120, x121, x122, x123, x124, x125, x126, x127, x128, x129, x130, x131, x132, x133, x134, x135, x136, x137, x138, x139, x140, x141, x142, x143, x144, x145, x146, x147, x148, x149, x150, x151, x152, x153, x154, x155, x156, x157, x158, x159, x160, x161, x162, x163, x164, x165, x166, x167, x168, x169, x170, x171, x172, x173, x174, x175, x176, x177, x178, x179, x180, x181, x182, x183, x184, x185, x186, x187, x188, x189, x190, x191, x192, x193, x194, x195, x196, x197, x198, x199, x200, x201, x202, x203, x204, x205, x206, x207, x208, x209, x210, x211, x212, x213, x214, x215, x216, x217, x218, x219, x220, x221, x222, x223, x224, u225], []⟩ wx)) (hX : Hid (∀ (V' M' : Value) (vv' : Int) (s' : LS) (gs' : GS) (lv' : List Vd) (li' : List Nat) (x99 x100 x101 x102 x103 x104 x105 x106 x107 x108 x109 x110 x111 x112 x113 x114 x115 x116 x117 x118 x119 x120 x121 x122 x123 x124 x125 x126 x127 x128 x129 x130 x131 x132 x133 x134 x135 x136 x137 x138 x139 x140 x141 x142 x143 x144 x145 x146 x147 x148 x149 x150 x151 x152 x153 x154 x155 x156 x157 x158 x159 x160 x161 x162 x163 x164 x165 x166 x167 x168 x169 x170 x171 x172 x173 x174 x175 x176 x177 x178 x179 x180 x181 x182 x183 x184 x185 x186 x187 x188 x189 x190 x191 x192 x193 x194 x195 x196 x197 x198 x199 x200 x201 x202 x203 x204 x205 x206 x207 x208 x209 x210 x211 x212 x213 x214 x215 x216 x217 x218 x219 x220 x221 x222 x223 x224 x16 x17 x18 x19 x20 : Value) (wx : World), Hid (StX g k m j vv s gs lv li lv' li' ∧ PlJ w g k A c X P (P + 1) q V' M' lv' li' vv' s' gs' wx) → Q (.exit 4) ⟨#[u0, u1, .pointer (some ⟨w.heap.size, 0, none⟩), u3, u4, .pointer (some ⟨w.heap.size + 2, 0, none⟩), .pointer (some ⟨X, 0, none⟩), .pointer (some ⟨X + 1, 0, none⟩), u8, u9, .int .u64 vv', u11, u12, .pointer (some ⟨q, 0, none⟩), .pointer (some ⟨P, 0, none⟩), .int .i64 j, x16, x17, x18, x19, x20, u21, u22, u23, u24, u25, u26, u27, u28, u29, u30, u31, u32, u33, u34, u35, u36, u37, u38, u39, u40, u41, u42, u43, u44, u45, u46, u47, u48, u49, u50, u51, u52, u53, u54, u55, u56, u57, u58, u59, u60, u61, u62, u63, u64, u65, u66, u67, u68, u69, u70, u71, u72, u73, u74, u75, u76, u77, u78, u79, u80, u81, u82, u83, u84, u85, u86, u87, u88, u89, u90, u91, u92, u93, u94, u95, u96, u97, u98, x99, x100, x101, x102, x103, x104, x105, x106, x107, x108, x109, x110, x111, x112, x113, x114, x115, x116, x117, x118, x119, x120, x121, x122, x123, x124, x125, x126, x127, x128, x129, x130, x131, x132, x133, x134, x135, x136, x137, x138, x139, x140, x141, x142, x143, x144, x145, x146, x147, x148, x149, x150, x151, x152, x153, x154, x155, x156, x157, x158, x159, x160, x161, x162, x163, x164, x165, x166, x167, x168, x169, x170, x171, x172, x173, x174, x175, x176, x177, x178, x179, x180, x181, x182, x183, x184, x185, x186, x187, x188, x189, x190, x191, x192, x193, x194, x195, x196, x197, x198, x199, x200, x201, x202, x203, x204, x205, x206, x207, x208, x209, x210, x211, x212, x213, x214, x215, x216, x217, x218, x219, x220, x221, x222, x223, x224, u225], []⟩ wx)):
    Code.wp Tryz.prog playT3Code Q ⟨#[u0, u1, .pointer (some ⟨w.heap.size, 0, none⟩), u3, u4, .pointer (some ⟨w.heap.size + 2, 0, none⟩), .pointer (some ⟨X, 0, none⟩), .pointer (some ⟨X + 1, 0, none⟩), u8, u9, .int .u64 vv, u11, u12, .pointer (some ⟨q, 0, none⟩), .pointer (some ⟨P, 0, none⟩), .int .i64 j, u16, u17, u18, u19, u20, u21, u22, u23, u24, u25, u26, u27, u28, u29, u30, u31, u32, u33, u34, u35, u36, u37, u38, u39, u40, u41, u42, u43, u44, u45, u46, u47, u48, u49, u50, u51, u52, u53, u54, u55, u56, u57, u58, u59, u60, u61, u62, u63, u64, u65, u66, u67, u68, u69, u70, u71, u72, u73, u74, u75, u76, u77, u78, u79, u80, u81, u82, u83, u84, u85, u86, u87, u88, u89, u90, u91, u92, u93, u94, u95, u96, u97, u98, u99, u100, u101, u102, u103, u104, u105, u106, u107, u108, u109, u110, u111, u112, u113, u114, u115, u116, u117, u118, u119, u120, u121, u122, u123, u124, u125, u126, u127, u128, u129, u130, u131, u132, u133, u134, u135, u136, u137, u138, u139, u140, u141, u142, u143, u144, u145, u146, u147, u148, u149, u150, u151, u152, u153, u154, u155, u156, u157, u158, u159, u160, u161, u162, u163, u164, u165, u166, u167, u168, u169, u170, u171, u172, u173, u174, u175, u176, u177, u178, u179, u180, u181, u182, u183, u184, u185, u186, u187, u188, u189, u190, u191, u192, u193, u194, u195, u196, u197, u198, u199, u200, u201, u202, u203, u204, u205, u206, u207, u208, u209, u210, u211, u212, u213, u214, u215, u216, u217, u218, u219, u220, u221, u222, u223, u224, u225], []⟩ wr := by
  conv => arg 2; whnf
  have n4 := GO.out.n4
  have b6 := GO.out.b6
  have b1 := GO.out.b1
  have h8 := GO.out.len
  have p16 : 2 ^ g.n ≤ 16 := Nat.pow_le_pow_right (n := 2) (by decide) (j := 4) n4
  have hca : g.came < 16 := Nat.lt_of_lt_of_le GO.out.came p16
  have hma : g.marked < 16 := Nat.lt_of_le_of_lt (Nat.le_of_testBit GO.out.marked) hca
  clear p16
  generalize wr = wo at *
  have y4 : wo.cell? ⟨w.heap.size, 4, none⟩ = some (.slice A g.moves.length c) := cell_of_row wo w.heap.size 4 _ _ _ S.out.a.tg
  have hm := Lib.hid (GO.out.moves _ (List.getElem_mem hlt))
  have HRx := Lib.hid (HR.out.below S.out.a.bel)
  obtain ⟨bb, off, eA, c0, c1, c2, c3, c4, c5⟩ := HRx.out.mv hlt
  have mx := HRx.out.cap
  have mx2 := HRx.out.max
  unfold maxLen at mx2
  subst eA
  rw [hmj.out] at c0 c1 c2 c3 c4 c5 hm
  have f1 : (0 : Int) ≤ j := by omega
  have f2 : (j : Int) < g.moves.length := by omega
  clear HRx
  by_cases h0 : m.claim = 0
  · have hd : ((m.claim : Int) == 0) = true := by simp [h0]
    have H0 := Lib.hid h0
    clear h0
    go_wp2_with fail
    refine hQ.out V M vv s gs lv li _ _ _ _ _ _ _ _ _ _ _ _ _ _ _ _ _ _ _ _ _ _ _ _ _ _ _ _ _ _ _ _ _ _ _ _ _ _ _ _ _ _ _ _ _ _ _ _ _ _ _ _ _ _ _ _ _ _ _ _ _ _ _ _ _ _ _ _ _ _ _ _ _ _ _ _ _ _ _ _ _ _ _ _ _ _ _ _ _ _ _ _ _ _ _ _ _ _ _ _ _ _ _ _ _ _ _ _ _ _ _ _ _ _ _ _ _ _ _ _ _ _ _ _ _ _ _ _ _ _ _ _ ?_
    exact Lib.hid ⟨.inl ⟨H0.out, rfl, rfl, rfl, rfl, rfl⟩, S.out.below (box_below _ _)⟩
  · have hd : ((m.claim : Int) == 0) = false := by simp [h0]
    have H0 := Lib.hid h0
    have HB := Lib.hid (box_below wo (.cells #[.int .i64 m.claim, .int .i64 m.mark, .int .i64 m.fr, .bool m.guess, .bool m.flip, .int .u64 m.salt] 41))
    have HN : Hid (MvAt (wo.alloc (.cells #[.int .i64 m.claim, .int .i64 m.mark, .int .i64 m.fr, .bool m.guess, .bool m.flip, .int .u64 m.salt] 41)) wo.heap.size m) := Lib.hid (heap_alloc_new wo _)
    have FD := Lib.hid (frameD_ok k vv GO.out hm.out h0)
    clear h0
    go_upto_region 29 with fail
    generalize (wo.alloc (.cells #[.int .i64 m.claim, .int .i64 m.mark, .int .i64 m.fr, .bool m.guess, .bool m.flip, .int .u64 m.salt] 41)) = wa at *
    have SA := Lib.hid (S.out.below HB.out)
    have hBm := lt_of_block HN.out
    generalize wo.heap.size = Bm at *
    clear c0 c1 c2 c3 c4 c5 S HB y4 hd mx mx2 f1 f2
    refine playT29 HN n4 hm.out.claim (Nat.lt_of_le_of_lt (Nat.le_of_testBit hm.out.mark) hm.out.claim) (Lib.hid ?_)
    intro ha A1 c1 A2 c2 _ _ _ _ _ _ _ _ _ wb FR
    have M1 := Lib.hid ((FR.out.bel.block _ (lt_of_block HN.out)).trans HN.out)
    have AB := Lib.hid (SA.out.a.below FR.out.bel)
    have hfr := hm.out.fr
    have hfr4 : m.fr < 4 := by omega
    have yf : wb.cell? ⟨Bm, 2, none⟩ = some (.int .i64 m.fr) := cell_of_row wb Bm 2 _ _ _ M1.out
    have yn : wb.cell? ⟨X, m.fr, none⟩ = some (.int .u64 (nonN g.b k m.fr : Nat)) := (cell_of_row wb X m.fr _ _ _ AB.out.tn).trans (by rw [nsRow_get g k _ hfr4, nsV_at g k hfr])
    have z2 := cell_of_row wb ha 2 _ _ _ FR.out.t
    have fz2 := frozen_of_row wb ha 2 _ _ FR.out.t
    have f3 : (0 : Int) ≤ m.fr := by omega
    have f4 : (m.fr : Int) < 4 := by omega
    go_upto_region 31 with fail
    have FR1 := Lib.hid (FR.out.set2 (nonN g.b k m.fr : Nat))
    clear z2 fz2 yn yf FR AB M1
    generalize wb.setCell ⟨ha, 2, none⟩ (.int .u64 (nonN g.b k m.fr : Nat)) = w31 at *
    have M1 : Hid (MvAt w31 Bm m) := Lib.hid ((FR1.out.bel.block _ (lt_of_block HN.out)).trans HN.out)
    have AB := Lib.hid (SA.out.a.below FR1.out.bel)
    have GB : Hid (GmAt w31 w.heap.size g (some ⟨bb, off, none⟩) c) := Lib.hid AB.out.tg
    have y2 : w31.cell? ⟨w.heap.size, 2, none⟩ = some (.int .i64 g.came) := cell_of_row w31 w.heap.size 2 _ _ _ AB.out.tg
    have yf : w31.cell? ⟨Bm, 2, none⟩ = some (.int .i64 m.fr) := cell_of_row w31 Bm 2 _ _ _ M1.out
    have yg : w31.cell? ⟨Bm, 3, none⟩ = some (.bool m.guess) := cell_of_row w31 Bm 3 _ _ _ M1.out
    have H3 := Lib.hid (grf_bit g.came m.fr w31 hca hfr4)
    have TR : Hid (trigN g k m vv = if g.came.testBit m.fr && !m.guess then nonN g.b k m.fr else lowN (mixZ (xor64 m.salt vv)) g.b) := Lib.hid rfl
    obtain ⟨hb, hhb⟩ : ∃ hb, hb = g.came.testBit m.fr := ⟨_, rfl⟩
    rw [← hhb] at H3 TR
    clear hhb
    obtain ⟨gg, hgg⟩ : ∃ gg, gg = m.guess := ⟨_, rfl⟩
    rw [← hgg] at yg TR
    clear hgg
    go_cut [130] from 121 to 130 (fun s130 wx => s130 = .bool (gg || !hb) ∧ wx = w31)
    case first =>
      cases gg <;> cases hb <;> (go_wp2_with (go_at_call 33; (with_reducible refine H3.out.mono ?_); rintro e w' ⟨rfl, rfl⟩); go_meet; exact ⟨rfl, rfl⟩)
    case rest =>
    obtain ⟨rfl, rfl⟩ := hcut
    clear y2 yf yg H3
    have TR2 : Hid (trigN g k m vv = if (gg || !hb) = true then lowN (mixZ (xor64 m.salt vv)) g.b else nonN g.b k m.fr) := Lib.hid (by rw [TR.out]; cases gg <;> cases hb <;> simp)
    clear TR
    generalize (gg || !hb) = bx at *
    go_upto_if 130 with fail
    refine playT32 M1 GB FR1 b1 b6 (Lib.hid ?_)
    intro  _ _ _ _ _ _ _ _ _ wd FR2
    rw [← TR2.out] at FR2
    clear TR2 FR1 AB M1 GB
    have htl := trigN_64 g k m vv b6
    obtain ⟨tr, htr⟩ : ∃ tr, tr = trigN g k m vv := ⟨_, rfl⟩
    rw [← htr] at FR2 htl
    have HTR := Lib.hid htr
    clear htr
    have hcl := (hm.out.lt GO.out).1
    have M1 : Hid (MvAt wd Bm m) := Lib.hid ((FR2.out.bel.block _ (lt_of_block HN.out)).trans HN.out)
    have AB := Lib.hid (SA.out.a.below FR2.out.bel)
    have GB : Hid (GmAt wd w.heap.size g (some ⟨bb, off, none⟩) c) := Lib.hid AB.out.tg
    have GX : Hid (guessX g m vv = if m.guess || !(m.claim &&& (15 - g.came) == 0) then lowN (mixZ (xor64 (IntKind.u64.wrap (m.salt + 1)) vv)) g.b else 0) := Lib.hid rfl
    have hcap := andNot_i64 m.claim hcl g.came hca
    have y0 : wd.cell? ⟨Bm, 0, none⟩ = some (.int .i64 m.claim) := cell_of_row wd Bm 0 _ _ _ M1.out
    have y3 : wd.cell? ⟨Bm, 3, none⟩ = some (.bool m.guess) := cell_of_row wd Bm 3 _ _ _ M1.out
    have y2 : wd.cell? ⟨w.heap.size, 2, none⟩ = some (.int .i64 g.came) := cell_of_row wd w.heap.size 2 _ _ _ AB.out.tg
    generalize m.claim &&& (15 - g.came) = nt at *
    obtain ⟨gg2, hgg⟩ : ∃ gg2, gg2 = m.guess := ⟨_, rfl⟩
    rw [← hgg] at y3 GX
    clear hgg
    go_upto_region 33 with fail
    go_cut [149] from 140 to 149 (fun s149 wx => s149 = .bool (gg2 || !(nt == 0)) ∧ wx = wd)
    case first =>
      by_cases hn : nt = 0
      · subst hn
        have e2 : bits .andNot .i64 (m.claim : Int) (g.came : Int) = 0 := hcap
        clear hcap
        cases gg2 <;> (go_wp2_with fail; go_meet; exact ⟨rfl, rfl⟩)
      · have hn1 : ((nt : Int) != 0) = true := by simpa using hn
        have hn2 : (nt == 0) = false := by simpa using hn
        cases gg2 <;> (go_wp2_with fail; go_meet; exact ⟨by rw [hn2]; rfl, rfl⟩)
    case rest =>
    obtain ⟨rfl, rfl⟩ := hcut
    clear y0 y3 y2 hcap
    generalize (gg2 || !(nt == 0)) = bx2 at *
    go_upto_if 149 with fail
    refine playT34 M1 GB FR2 b1 b6 (Lib.hid ?_)
    intro  _ _ _ _ _ _ _ _ _ _ wf FR3
    rw [← GX.out] at FR3
    clear FR2 AB M1 GX GB
    have hgl := guessX_64 g m vv b6
    obtain ⟨gx, hgx⟩ : ∃ gx, gx = guessX g m vv := ⟨_, rfl⟩
    rw [← hgx] at FR3 hgl
    have HGX := Lib.hid hgx
    clear hgx
    go_upto_block 6 with fail
    refine playT4 HN (Lib.hid SA.out.a.tg) (Lib.hid SA.out.a.tn) (Lib.hid SA.out.a.tc) FR3 GO hm hgl (Lib.hid ?_)
    intro  _ _ _ _ _ _ _ _ _ _ _ _ _ _ _ _ _ _ _ _ _ _ _ _ _ _ _ _ _ _ _ _ _ _ _ _ _ _ wh FR4
    clear FR3
    have SD := Lib.hid (SA.out.below FR4.out.bel)
    have hd : Hid ((⟨rowS m.claim g.n, rowS m.mark g.n, (tr : Nat), ((gx ^^^ xorTo g k m g.n : Nat) : Int), odTo g k m g.n⟩ : AckD) = frameD g k m vv) := Lib.hid (by unfold frameD; rw [HTR.out, HGX.out, Nat.xor_comm])
    have hxl : gx ^^^ xorTo g k m g.n < 64 := Nat.xor_lt_two_pow (n := 6) hgl (xorTo_lt g k m b6 g.n)
    have ok1 := rowS_ok (hm.out.lt GO.out).1 n4
    have ok2 := rowS_ok (hm.out.lt GO.out).2 n4
    have K1 := Lib.hid (ref_putAck wh ⟨A1, c1, A2, c2, rowS m.claim g.n, rowS m.mark g.n, (tr : Nat), ((gx ^^^ xorTo g k m g.n : Nat) : Int), odTo g k m g.n⟩ ⟨FR4.out.r1, FR4.out.r2, ok1.2.2.2, ok2.2.2.2, ⟨by show (0 : Int) ≤ (tr : Nat); omega, by show ((tr : Nat) : Int) < _; omega⟩, ⟨by show (0 : Int) ≤ ((gx ^^^ xorTo g k m g.n : Nat) : Int); omega, by show ((gx ^^^ xorTo g k m g.n : Nat) : Int) < _; omega⟩⟩ FD.out.g1 FD.out.g2 FD.out.p1 FD.out.p2 FD.out.l1 FD.out.l2)
    unfold Ak.val Ak.cells at K1
    simp only at K1
    rw [hd.out] at K1
    have U8E := Lib.hid (putAck_u8 FD.out.g1 FD.out.g2 FD.out.p1 FD.out.p2 FD.out.l1 FD.out.l2)
    have y0 := cell_of_row wh ha 0 _ _ _ FR4.out.t
    have y1 := cell_of_row wh ha 1 _ _ _ FR4.out.t
    have y2 := cell_of_row wh ha 2 _ _ _ FR4.out.t
    have y3 := cell_of_row wh ha 3 _ _ _ FR4.out.t
    have y4 := cell_of_row wh ha 4 _ _ _ FR4.out.t
    clear SA HN hd hxl ok1 ok2 FD
    generalize odTo g k m g.n = od at *
    generalize gx ^^^ xorTo g k m g.n = xx at *
    go_wp2_with fail
    (with_reducible refine K1.out.mono ?_)
    rintro e we ⟨A', c', rfl, re, be, -⟩
    have SE := Lib.hid (SD.out.below be)
    have K3 := Lib.hid (alr_take _ _ _ s gs we A' c' (putAckP (frameD g k m vv)) 0 SE.out.al SE.out.lim re U8E.out.1 (by have := U8E.out.2; omega) (by unfold isU64; omega) (by rw [SE.out.bz.2]; simp))
    clear K1 SD FR4 re be y0 y1 y2 y3 y4
    go_wp2_with fail
    (with_reducible refine K3.out.mono ?_)
    rintro e wt ⟨a2, rfl, -, -, AT, ct⟩
    have ST := Lib.hid (SE.out.took ct AT (SE.out.bz.take _ _ _))
    have hkd := take_kind gs s (putAckP (frameD g k m vv)) 0
    obtain ⟨tk, htk⟩ : ∃ tk, tk = gs.take s (putAckP (frameD g k m vv)) 0 := ⟨_, rfl⟩
    rw [← htk] at ST hkd ⊢
    have HTK := Lib.hid htk
    clear K3 SE U8E AT ct htk
    obtain ⟨g', s', v, ad⟩ := tk
    obtain ⟨kd, why, pn, ch⟩ := v
    unfold Vd.val Ak.val Ak.cells
    simp only at ST hkd ⊢
    generalize a2.sp.length = n2 at *
    have BV := Lib.hid ((box_below wt (.cells #[.int .i64 kd, .int .i64 why, .int .u64 pn, .bool ch] 43)).trans ((box_below (wt.alloc (.cells #[.int .i64 kd, .int .i64 why, .int .u64 pn, .bool ch] 43)) (.cells #[.slice a2.A n2 a2.c, .slice a2.B a2.mm.length a2.d, .int .u64 a2.tr, .int .u64 a2.xo, .bool a2.od] 74)).mono (by simp)))
    have VT := Lib.hid (((box_below (wt.alloc (.cells #[.int .i64 kd, .int .i64 why, .int .u64 pn, .bool ch] 43)) (.cells #[.slice a2.A n2 a2.c, .slice a2.B a2.mm.length a2.d, .int .u64 a2.tr, .int .u64 a2.xo, .bool a2.od] 74)).block wt.heap.size (by simp)).trans (heap_alloc_new wt (.cells #[.int .i64 kd, .int .i64 why, .int .u64 pn, .bool ch] 43)))
    go_upto_region 43 with fail
    generalize ((wt.alloc (.cells #[.int .i64 kd, .int .i64 why, .int .u64 pn, .bool ch] 43)).alloc (.cells #[.slice a2.A n2 a2.c, .slice a2.B a2.mm.length a2.d, .int .u64 a2.tr, .int .u64 a2.xo, .bool a2.od] 74)) = wv at *
    have SV := Lib.hid (ST.out.below BV.out)
    have HVT := Lib.hid (fun x e => (ST.out.ov.lt x e).2)
    have HMT := Lib.hid (fun x e => (ST.out.om.lt x e).2)
    have lP := lt_of_block ST.out.tp
    clear ST BV
    generalize wt.heap.size = z at *
    obtain ⟨iV, hiV, vz0, vz1, vz2⟩ := info_parts infoVd3
    obtain ⟨iI, hiI, iz0, iz1, iz2⟩ := info_parts infoInt3
    obtain ⟨VA, vc, rfl, -⟩ := own_slice SV.out.ov
    obtain ⟨MA, mc, rfl, -⟩ := own_slice SV.out.om
    have p0 : wv.cell? ⟨P, 0, none⟩ = some (.slice VA lv.length vc) := cell_of_row wv P 0 _ _ _ SV.out.tp
    have x0 := cell_of_row wv z 0 _ _ _ VT.out
    have x1 := cell_of_row wv z 1 _ _ _ VT.out
    have x2 := cell_of_row wv z 2 _ _ _ VT.out
    have x3 := cell_of_row wv z 3 _ _ _ VT.out
    have hsz := SV.out.sz
    go_upto_region 44 with (
      at_builtin
      go_loud (refine wpList_append_rd _ rfl (.tmp 206) (.tmp 208) 32 rfl (P + 1) 43 iV _ 4 32 Tryz.underlying32 hiV vz0 vz1 vz2 rfl (by decide) (.slice VA lv.length vc) lv.length (Vds lv) rfl (own_bel SV.out.ov (box_below _ _)) _ 1 1 [.int .i64 kd, .int .i64 why, .int .u64 pn, .bool ch] rfl (Rd.lit wv 4 #[.int .i64 kd, .int .i64 why, .int .u64 pn, .bool ch] 43 1 _ rfl (by simp) (by unfold maxLen; omega)) (by simp [Value.oneCell']) (by unfold maxLen; omega) (by omega) (by simp; omega) ?_)
      intro v6 w6 ho6 hg6 hv6
      obtain ⟨A6, c6, ev6, hA6⟩ := own_slice ho6
      subst ev6
      clear hA6
      have B6 := Lib.hid (box_below wv (.cells #[.int .i64 kd, .int .i64 why, .int .u64 pn, .bool ch] 43))
      go_loud (have C6 : Hid (Chg (fun x => (Value.slice VA lv.length vc).ownBlock = some x ∨ x = P) wv w6) := Lib.hid ((chg_below B6.out).grown hg6 (fun x e => .inl (.inl e))))
      go_loud (have S6 := Lib.hid (SV.out.appV (v := ⟨kd, why, pn, ch⟩) B6.out ho6 hg6 hv6))
      go_loud (have VL := Lib.hid (fun x e => (SV.out.ov.lt x e).1))
      go_loud (have t6 := hg6.block P (by have := lt_of_block SV.out.tp; simp; omega) (fun e => by have := VL.out P e.symm; omega))
      go_loud (have t7 := t6.trans ((B6.out.block P (lt_of_block SV.out.tp)).trans SV.out.tp))
      have y5 := cell_of_row w6 P 0 _ _ _ t7
      have fy5 := frozen_of_row w6 P 0 _ _ t7
      go_loud (have V6 := Lib.hid ((C6.out.setCell (p := ⟨P, 0, none⟩) (.inl (.inr rfl)) (.slice A6 (lv.length + 1) c6)).blk VT.out (fun e => e.elim (fun e => by have := HVT.out z e; omega) (fun e => by omega))))
      clear ho6 hg6 hv6 t6 t7)
    clear p0 x0 x1 x2 x3 y5 fy5 B6 C6 VL SV VT HVT
    generalize w6.setCell ⟨P, 0, none⟩ (.slice A6 (lv.length + 1) c6) = w7 at *
    have p1 : w7.cell? ⟨P, 1, none⟩ = some (.slice MA li.length mc) := cell_of_row w7 P 1 _ _ _ S6.out.tp
    have hsz := S6.out.sz
    go_upto_region 45 with (
      at_builtin
      go_loud (refine wpList_append_rd _ rfl (.tmp 212) (.tmp 214) 47 rfl (P + 1) 3 iI _ 1 8 Tryz.underlying47 hiI iz0 iz1 iz2 rfl (by decide) (.slice MA li.length mc) li.length (Ixs li) rfl (own_bel S6.out.om (box_below _ _)) _ 1 1 [.int .i64 j] rfl (Rd.lit w7 1 #[.int .i64 j] 3 1 _ rfl (by simp) (by unfold maxLen; omega)) (by simp [Value.oneCell']) (by unfold maxLen; omega) (by omega) (by simp; omega) ?_)
      intro v8 w8 ho8 hg8 hv8
      obtain ⟨A8, c8, ev8, hA8⟩ := own_slice ho8
      subst ev8
      clear hA8
      have B8 := Lib.hid (box_below w7 (.cells #[.int .i64 j] 3))
      go_loud (have C8 : Hid (Chg (fun x => (Value.slice MA li.length mc).ownBlock = some x ∨ x = P) w7 w8) := Lib.hid ((chg_below B8.out).grown hg8 (fun x e => .inl (.inl e))))
      go_loud (have S8 := Lib.hid (S6.out.appM (i := j) B8.out ho8 hg8 hv8))
      go_loud (have ML := Lib.hid (fun x e => (S6.out.om.lt x e).1))
      go_loud (have t8 := hg8.block P (by have := lt_of_block S6.out.tp; simp; omega) (fun e => by have := ML.out P e.symm; omega))
      go_loud (have t9 := t8.trans ((B8.out.block P (lt_of_block S6.out.tp)).trans S6.out.tp))
      have y6 := cell_of_row w8 P 1 _ _ _ t9
      have fy6 := frozen_of_row w8 P 1 _ _ t9
      go_loud (have V8 := Lib.hid ((C8.out.setCell (p := ⟨P, 1, none⟩) (.inl (.inr rfl)) (.slice A8 (li.length + 1) c8)).blk V6.out (fun e => e.elim (fun e => by have := HMT.out z e; omega) (fun e => by omega))))
      clear ho8 hg8 hv8 t8 t9)
    clear p1 y6 fy6 B8 C8 ML S6 V6 HMT
    generalize w8.setCell ⟨P, 1, none⟩ (.slice A8 (li.length + 1) c8) = w9 at *
    have x0 : w9.cell? ⟨z, 0, none⟩ = some (.int .i64 kd) := cell_of_row w9 z 0 _ _ _ V8.out
    have hw : IntKind.u64.wrap kd = kd := IntWalk.u64_in _ (by omega)
    have K9 := Lib.hid (grf_fold vv kd w9)
    by_cases h3 : kd = 3
    · subst h3
      have H3 : Hid (StX g k m j vv s gs lv li (lv ++ [⟨3, why, pn, ch⟩]) (li ++ [j])) := Lib.hid ⟨H0.out, _, HTK.out, rfl, rfl, rfl⟩
      have S9 := Lib.hid (S8.out.see 3)
      go_wp2_with fail
      (with_reducible refine K9.out.mono ?_)
      rintro e wy ⟨rfl, rfl⟩
      go_wp2_with fail
      refine hX.out (.slice A6 (lv.length + 1) c6) (.slice A8 (li.length + 1) c8) _ s' g' (lv ++ [⟨3, why, pn, ch⟩]) (li ++ [j]) _ _ _ _ _ _ _ _ _ _ _ _ _ _ _ _ _ _ _ _ _ _ _ _ _ _ _ _ _ _ _ _ _ _ _ _ _ _ _ _ _ _ _ _ _ _ _ _ _ _ _ _ _ _ _ _ _ _ _ _ _ _ _ _ _ _ _ _ _ _ _ _ _ _ _ _ _ _ _ _ _ _ _ _ _ _ _ _ _ _ _ _ _ _ _ _ _ _ _ _ _ _ _ _ _ _ _ _ _ _ _ _ _ _ _ _ _ _ _ _ _ _ _ _ _ _ _ _ _ _ _ _ ?_
      exact Lib.hid ⟨H3.out, S9.out⟩
    · have hd3 : (kd == 3) = false := by simpa using h3
      have H3 : Hid (StN g k m j vv s gs lv li (foldV vv kd) s' g' (lv ++ [⟨kd, why, pn, ch⟩]) (li ++ [j])) := Lib.hid (.inr ⟨H0.out, _, HTK.out, h3, rfl, rfl, rfl, rfl, rfl⟩)
      have S9 := Lib.hid (S8.out.see kd)
      clear h3
      go_wp2_with fail
      (with_reducible refine K9.out.mono ?_)
      rintro e wy ⟨rfl, rfl⟩
      go_wp2_with fail
      refine hQ.out (.slice A6 (lv.length + 1) c6) (.slice A8 (li.length + 1) c8) _ s' g' (lv ++ [⟨kd, why, pn, ch⟩]) (li ++ [j]) _ _ _ _ _ _ _ _ _ _ _ _ _ _ _ _ _ _ _ _ _ _ _ _ _ _ _ _ _ _ _ _ _ _ _ _ _ _ _ _ _ _ _ _ _ _ _ _ _ _ _ _ _ _ _ _ _ _ _ _ _ _ _ _ _ _ _ _ _ _ _ _ _ _ _ _ _ _ _ _ _ _ _ _ _ _ _ _ _ _ _ _ _ _ _ _ _ _ _ _ _ _ _ _ _ _ _ _ _ _ _ _ _ _ _ _ _ _ _ _ _ _ _ _ _ _ _ _ _ _ _ _ ?_
      exact Lib.hid ⟨H3.out, S9.out⟩

end Go.Proofs.YtpfmhkkglaghgaaGreat
