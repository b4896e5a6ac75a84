/-
  The drawn region of GuardDrops, by itself.
-/
import Derived.Test.YtelaimephejkkaaGreatGuS
namespace Go.Proofs.YtelaimephejkkaaGreat
set_option linter.unusedSimpArgs false
set_option linter.unusedVariables false
set_option linter.unnecessarySimpa false
open Go.RowKit

/-- The region of that number. -/
def regOf (n : Nat) : Code → Option Code
  | .region i o b => if i = n then some (.region i o b) else none
  | .loop c => regOf n c
  | .seq a b => match regOf n a with
    | some c => some c
    | none => regOf n b
  | .block _ c => regOf n c
  | .scope c => regOf n c
  | .cond _ a b => match regOf n a with
    | some c => some c
    | none => regOf n b
  | _ => none
noncomputable def guardDropsRegCode : Code := (Tryz.f4.body.bind (regOf 11)).getD .skip
set_option maxHeartbeats 64000000 in
set_option maxRecDepth 1000000 in
theorem guardDropsReg {u0 u1 u2 u4 u5 u6 u7 u8 u10 u14 u15 u16 u17 u18 u19 u20 u21 u22 u23 u24 u25 u26 u27 u28 u29 u30 u31 u32 u33 u34 u35 u36 u37 u38 u39 u40 u41 u42 u43 u44 u45 u46 u47 u48 u49 u50 u51 u52 u53 u54 u55 u56 u57 u58 u59 u60 u61 u62 u63 u64 u65 u66 u67 u68 u69 u70 u71 u72 u73 u74 u75 u76 u77 u78 u79 u80 u81 u82 u83 u84 u85 u86 u87 u88 u89 u90 u91 u92 u93 u94 u95 u96 u97 u98 u99 u100 u101 u102 u103 u104 u105 u106 u107 u108 u109 u110 u111 u112 u113 u114 u115 u116 u117 u118 u119 u120 u121 u122 u123 u124 u125 u126 u127 u128 u129 u130 u131 u132 u133 u134 u135 u136 u137 u138 u139 u140 u141 u142 u143 u144 u145 u146 u147 u148 u149 u150 u151 u152 u153 u154 u155 u156 u157 u158 u159 u160 u161 u162 u163 u164 u165 u166 u167 u168 u169 u170 u171 u172 u173 u174 u175 u176 u177 u178 u179 u180 u181 u182 u183 u184 u185 u186 u187 u188 u189 u190 u191 u192 u193 u194 u195 : Value} {w wr : World} {NN M : Nat → Prop} {h1 p r b : Nat} {s t : LS} {g : GS} {sh : Sh} {bb off n4 c4 j o9 : Nat} {nw : Int} {Q : Exit → Act → World → Prop}
    (S : Hid (Solo w NN M h1 p r b s t g wr)) (hok : Hid (Sh.ok w sh)) (KAt : Hid (ShAt wr bb o9 sh)) (hbl : bb < w.heap.size) (hlt : j < n4) (hcap : n4 ≤ c4) (hmax : c4 ≤ 2 ^ 63 - 1) (hoff : off + j * 9 = o9) (hnw : 0 ≤ nw ∧ nw < 18446744073709551616)
    (hQ : ∀ (hV hA : Nat) (f : List Int) (a : Ak) (x75 x76 x77 x78 x79 x80 x81 x82 x83 x84 x85 x74 x86 x87 : Value) (wx : World), Hid (SoEnd w NN M h1 p r b t wr (g.take s f nw) hV hA a wx) → Q .normal ⟨#[u0, u1, u2, .slice (some ⟨bb, off, none⟩) n4 c4, u4, u5, u6, u7, u8, .pointer (some ⟨h1, 0, none⟩), u10, .pointer (some ⟨b, 0, none⟩), .int .u64 nw, .int .i64 j, u14, u15, .pointer (some ⟨hV, 0, none⟩), .pointer (some ⟨hA, 0, none⟩), u18, u19, u20, u21, u22, u23, u24, u25, u26, u27, u28, u29, u30, u31, u32, u33, u34, u35, u36, u37, u38, u39, u40, u41, u42, u43, u44, u45, u46, u47, u48, u49, u50, u51, u52, u53, u54, u55, u56, u57, u58, u59, u60, u61, u62, u63, u64, u65, u66, u67, u68, u69, u70, u71, u72, u73, x74, x75, x76, x77, x78, x79, x80, x81, x82, x83, x84, x85, x86, x87, u88, u89, u90, u91, u92, u93, u94, u95, u96, u97, u98, u99, u100, u101, u102, u103, u104, u105, u106, u107, u108, u109, u110, u111, u112, u113, u114, u115, u116, u117, u118, u119, u120, u121, u122, u123, u124, u125, u126, u127, u128, u129, u130, u131, u132, u133, u134, u135, u136, u137, u138, u139, u140, u141, u142, u143, u144, u145, u146, u147, u148, u149, u150, u151, u152, u153, u154, u155, u156, u157, u158, u159, u160, u161, u162, u163, u164, u165, u166, u167, u168, u169, u170, u171, u172, u173, u174, u175, u176, u177, u178, u179, u180, u181, u182, u183, u184, u185, u186, u187, u188, u189, u190, u191, u192, u193, u194, u195], []⟩ wx) :
    Code.wp Tryz.prog guardDropsRegCode Q ⟨#[u0, u1, u2, .slice (some ⟨bb, off, none⟩) n4 c4, u4, u5, u6, u7, u8, .pointer (some ⟨h1, 0, none⟩), u10, .pointer (some ⟨b, 0, none⟩), .int .u64 nw, .int .i64 j, u14, u15, u16, u17, u18, u19, u20, u21, u22, u23, u24, u25, u26, u27, u28, u29, u30, u31, u32, u33, u34, u35, u36, u37, u38, u39, u40, u41, u42, u43, u44, u45, u46, u47, u48, u49, u50, u51, u52, u53, u54, u55, u56, u57, u58, u59, u60, u61, u62, u63, u64, u65, u66, u67, u68, u69, u70, u71, u72, u73, u74, u75, u76, u77, u78, u79, u80, u81, u82, u83, u84, u85, u86, u87, u88, u89, u90, u91, u92, u93, u94, u95, u96, u97, u98, u99, u100, u101, u102, u103, u104, u105, u106, u107, u108, u109, u110, u111, u112, u113, u114, u115, u116, u117, u118, u119, u120, u121, u122, u123, u124, u125, u126, u127, u128, u129, u130, u131, u132, u133, u134, u135, u136, u137, u138, u139, u140, u141, u142, u143, u144, u145, u146, u147, u148, u149, u150, u151, u152, u153, u154, u155, u156, u157, u158, u159, u160, u161, u162, u163, u164, u165, u166, u167, u168, u169, u170, u171, u172, u173, u174, u175, u176, u177, u178, u179, u180, u181, u182, u183, u184, u185, u186, u187, u188, u189, u190, u191, u192, u193, u194, u195], []⟩ wr := by
  conv => arg 2; whnf
  obtain ⟨hnw0, hnw1⟩ := hnw
  have gK := Lib.hid (GsK.of S.out.t1 KAt.out)
  have KF := Lib.hid (fun (W : World) (q : Below wr.heap.size wr W) => solo_frame S.out sh (hok.out.below S.out.bel) W q)
  have KT := Lib.hid (fun (W : World) (q : Below wr.heap.size wr W) (A : Option Addr) (c : Nat) (f : List Int) hr hb hl => solo_take S.out (nw) ⟨by omega, by omega⟩ W q A c f hr hb hl)
  have gB := Lib.hid (fun (W : World) (q : Below wr.heap.size wr W) => (GsK.of ((q.block _ (lt_of_block S.out.t1)).trans S.out.t1) (KAt.out.chg (chg_below q (F := fun _ => False)) (fun h => h)) : GsK h1 p r bb o9 sh W))
  have hl1 := Lib.hid (lt_of_block S.out.t1)
  have hlb := Lib.hid (Nat.lt_of_lt_of_le hbl S.out.bel.size)
  have gC := Lib.hid (fun (vB W : World) (k : GsK h1 p r bb o9 sh vB) (hc : Chg (fun k => wr.heap.size ≤ k) vB W) => k.chg hc (by have := hl1.out; omega) (by have := hlb.out; omega))
  have gT := Lib.hid (fun (W vB : World) (o : GOut) (t : Took w wr W vB (NN) p b o) => (gB.out W t.bel).chg t.chg (fun e => e (.inl S.out.n1)) (fun e => e (.inl (S.out.nw _ hbl))))
  obtain ⟨ke3, ke4, kc0, kc1, kc2, kc3, kc4, kc5, kc6, kc7, kc8⟩ := gK.out
  have hsv : sh.val = .agg #[.int .i64 sh.kind, .slice sh.A sh.b.length sh.c, .int .u16 sh.k.a, .int .u16 sh.k.b, .int .u16 sh.k.c, .int .u16 sh.k.d, .int .u64 sh.x, .bool sh.right, .int .u16 sh.wait] := rfl
  rw [hsv] at KF
  go_region_held3 (fun W => W.cell? ⟨h1, 0, none⟩ = some (.pointer (some ⟨p, 0, none⟩)) ∧ W.cell? ⟨h1, 1, none⟩ = some (.pointer (some ⟨r, 0, none⟩)) ∧
      W.cell? ⟨bb, o9, none⟩ = some (.int .i64 sh.kind) ∧ W.cell? ⟨bb, o9 + 1, none⟩ = some (.slice sh.A sh.b.length sh.c) ∧ W.cell? ⟨bb, o9 + 2, none⟩ = some (.int .u16 sh.k.a) ∧ W.cell? ⟨bb, o9 + 3, none⟩ = some (.int .u16 sh.k.b) ∧ W.cell? ⟨bb, o9 + 4, none⟩ = some (.int .u16 sh.k.c) ∧ W.cell? ⟨bb, o9 + 5, none⟩ = some (.int .u16 sh.k.d) ∧ W.cell? ⟨bb, o9 + 6, none⟩ = some (.int .u64 sh.x) ∧ W.cell? ⟨bb, o9 + 7, none⟩ = some (.bool sh.right) ∧ W.cell? ⟨bb, o9 + 8, none⟩ = some (.int .u16 sh.wait))
    (first
      | ((refine gC.out _ _ (gT.out _ _ _ tB) ?_); (repeat (first | (with_reducible exact Chg.refl _ _) | (with_reducible refine Chg.alloc ?_ _) | (with_reducible refine Chg.drew ?_) | ((with_reducible refine chg_cell ?_ ?_); focus (first | exact Nat.le_refl _ | (simp; done) | exact bA1.size | omega | (simp; omega))))); done)
      | ((refine gB.out _ ?_); (repeat (first | (with_reducible exact Below.refl _ _) | (with_reducible exact bA1) | ((with_reducible refine below_box ?_ ?_); focus (first | exact Nat.le_refl _ | (simp; done) | exact bA1.size | omega | (simp; omega) | (have := bA1.size; simp; omega))) | (with_reducible refine Below.drew ?_))); done))
    (first
      | (go_at_call 14; refine Calls.mono (KF.out _ ?_) ?_; (focus (repeat (first | (with_reducible exact Below.refl _ _) | ((with_reducible refine below_box ?_ ?_); focus (first | exact Nat.le_refl _ | (simp; done) | omega | (simp; omega))) | (with_reducible refine Below.drew ?_)))); rintro e vA ⟨fA, fc, f, rfl, hfR, hfb, hfl, bA, hfA⟩; have bA1 : Below wr.heap.size wr vA := Below.trans (by repeat (first | (with_reducible exact Below.refl _ _) | ((with_reducible refine below_box ?_ ?_); focus (first | exact Nat.le_refl _ | (simp; done) | omega | (simp; omega))) | (with_reducible refine Below.drew ?_))) (bA.mono (by first | exact Nat.le_refl _ | (simp; done) | (simp; omega))); (first | ((with_reducible have zz := zsndD bA); obtain ⟨zz1, zz2⟩ := zz; have lz1 := lt_of_block zz1; have lz2 := lt_of_block zz2) | ((with_reducible have zz1 := zfstD bA); have lz1 := lt_of_block zz1) | ((with_reducible have zz := zsnd bA); obtain ⟨zz1, zz2⟩ := zz; have lz1 := lt_of_block zz1; have lz2 := lt_of_block zz2) | ((with_reducible have zz1 := zfst bA); have lz1 := lt_of_block zz1) | skip))
      | (go_at_call 18; refine Calls.mono (KT.out _ ?_ fA fc f ?_ hfb hfl) ?_; (focus (repeat (first | (with_reducible exact Below.refl _ _) | (with_reducible exact bA1) | ((with_reducible refine below_box ?_ ?_); focus (first | exact Nat.le_refl _ | (simp; done) | (have := bA1.size; omega) | (have := bA1.size; simp; omega))) | (with_reducible refine Below.drew ?_)))); (focus (first | (with_reducible exact hfR) | (with_reducible exact hfR.below (box_below _ _)) | (with_reducible exact hfR.below (below2 _ _ _)))); rintro e vB ⟨a, rfl, ia, hA, tB⟩; have sA1 := bA1.size; have sA2 := bA.size
          ; (try (have y := tB.old (k := wr.heap.size) (Nat.le_refl _) zz1 (by first | (with_reducible exact Below.refl _ _) | exact box_below _ _ | exact below2 _ _ _); first | (have qV : vB.heap[_]? = some zV := y; have q := zV_cells y; have lv := lt_of_block y; obtain ⟨⟨zv0, zv1, zv2, zv3⟩, yv0, yv1, yv2, yv3⟩ := q) | (have qA : vB.heap[_]? = some zA := y; have q := zA_cells y; have la := lt_of_block y; obtain ⟨⟨za0, za1, za2, za3, za4⟩, ya0, ya1, ya2, ya3, ya4⟩ := q)))
          ; (try (have y := tB.old (k := wr.heap.size + 1) (Nat.le_succ _) zz2 (by first | (with_reducible exact Below.refl _ _) | exact box_below _ _ | exact below2 _ _ _); first | (have qV : vB.heap[_]? = some zV := y; have q := zV_cells y; have lv := lt_of_block y; obtain ⟨⟨zv0, zv1, zv2, zv3⟩, yv0, yv1, yv2, yv3⟩ := q) | (have qA : vB.heap[_]? = some zA := y; have q := zA_cells y; have la := lt_of_block y; obtain ⟨⟨za0, za1, za2, za3, za4⟩, ya0, ya1, ya2, ya3, ya4⟩ := q)))
          ; (first | ((with_reducible have yy := tB.snd bA1.size); obtain ⟨y, y'⟩ := yy; first | (have qV : vB.heap[_]? = some zV := y; have q := zV_cells y; have lv := lt_of_block y; obtain ⟨⟨zv0, zv1, zv2, zv3⟩, yv0, yv1, yv2, yv3⟩ := q; have qA : vB.heap[_]? = some zA := y'; have q := zA_cells y'; have la := lt_of_block y'; obtain ⟨⟨za0, za1, za2, za3, za4⟩, ya0, ya1, ya2, ya3, ya4⟩ := q) | (have qA : vB.heap[_]? = some zA := y; have q := zA_cells y; have la := lt_of_block y; obtain ⟨⟨za0, za1, za2, za3, za4⟩, ya0, ya1, ya2, ya3, ya4⟩ := q; have qV : vB.heap[_]? = some zV := y'; have q := zV_cells y'; have lv := lt_of_block y'; obtain ⟨⟨zv0, zv1, zv2, zv3⟩, yv0, yv1, yv2, yv3⟩ := q)) | ((with_reducible have y := tB.fst bA1.size); first | (have qV : vB.heap[_]? = some zV := y; have q := zV_cells y; have lv := lt_of_block y; obtain ⟨⟨zv0, zv1, zv2, zv3⟩, yv0, yv1, yv2, yv3⟩ := q) | (have qA : vB.heap[_]? = some zA := y; have q := zA_cells y; have la := lt_of_block y; obtain ⟨⟨za0, za1, za2, za3, za4⟩, ya0, ya1, ya2, ya3, ya4⟩ := q)) | skip)))
  all_goals
    try go_wp2_with fail
    refine hQ _ _ f a _ _ _ _ _ _ _ _ _ _ _ _ _ _ _ ?_
    first
      | (with_reducible exact Lib.hid (SoEnd.f1 S.out tB ia))
      | (with_reducible exact Lib.hid (SoEnd.f2 S.out tB ia))
      | ((with_reducible refine Lib.hid (SoEnd.f3 S.out tB ia qV ?_ ?_)); (all_goals (first | exact Nat.le_refl _ | (simp; done) | omega | (simp; omega))))
      | ((with_reducible refine Lib.hid (SoEnd.f4 S.out tB ia qA ?_ ?_)); (all_goals (first | exact Nat.le_refl _ | (simp; done) | omega | (simp; omega))))
      | ((with_reducible refine Lib.hid (SoEnd.f5 S.out tB ia qV ?_ ?_ qA ?_ ?_ ?_)); (all_goals (first | exact Nat.le_refl _ | (simp; done) | omega | (simp; omega))))

end Go.Proofs.YtelaimephejkkaaGreat
