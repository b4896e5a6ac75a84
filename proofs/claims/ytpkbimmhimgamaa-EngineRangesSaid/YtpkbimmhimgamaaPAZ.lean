/-
  Part of the proof of EngineRanges.
-/
import Derived.Test.YtpkbimmhimgamaaPAY
import Derived.Test.YtpkbimmhimgamaaPAS
import Derived.Deep.MidRow
namespace Go.Proofs.Ytpkbimmhimgamaa
set_option linter.unusedSimpArgs false
set_option linter.unusedVariables false
set_option linter.unnecessarySimpa false
open Go.RowKit
theorem there_of {W : World} {g : Nat} {cs : Array Value} {T : TypeId} (h : W.heap[g]? = some (.cells cs T (0, 0))) : W.there g 0 cs.size := fun j hj => by
  have z := cells_of h
  rw [Nat.zero_add, z.1 j, z.2 j]
  exact ⟨by simp [hj], rfl⟩
theorem setCells_row (g : Nat) : ∀ (i : Nat) (vs : List Value) (W : World) (cs : Array Value) (T : TypeId), W.heap[g]? = some (.cells cs T (0, 0)) → (W.setCells g i vs).heap[g]? = some (.cells (setAll cs i vs) T (0, 0))
  | _, [], _, _, _, h => h
  | i, v :: r, W, cs, T, h => setCells_row g (i + 1) r _ _ T (heap_setCell_same W g i _ _ v h)
theorem setCells_below {n g : Nat} (hn : n ≤ g) : ∀ (i : Nat) (vs : List Value) (w W : World), Below n w W → Below n w (W.setCells g i vs)
  | _, [], _, _, h => h
  | i, v :: r, w, W, h => setCells_below hn (i + 1) r w _ (h.setCell (p := ⟨g, i, none⟩) hn v)
theorem tmod_e {a b : Int} (h : 0 ≤ a) : a.tmod b = a % b := Int.tmod_eq_emod_of_nonneg h
theorem tdiv_e {a b : Int} (h : 0 ≤ a) : a.tdiv b = a / b := Int.tdiv_eq_ediv_of_nonneg h
noncomputable def cfECode : Code := (Try.f17.body.bind (regE10 24)).getD .skip
set_option maxHeartbeats 64000000 in
set_option maxRecDepth 1000000 in
theorem cfE {u0 u1 u4 u5 u6 u7 u8 u9 u10 u11 u12 u13 u14 u15 u16 u17 u18 u19 u20 u21 u22 u23 u24 u25 u26 u27 u28 u29 u30 u31 u32 u33 u34 u35 u36 u37 u38 u39 u40 u41 u42 u43 u44 u45 u46 u47 u48 u49 u50 u51 u52 u53 u54 u55 u56 u57 u58 u59 u60 u61 u62 u63 u64 u65 u66 u67 u68 u69 u70 u71 u72 u73 u74 u75 u76 u77 u78 u79 u80 u81 u82 u83 u84 u85 u86 u87 u88 u89 u90 u91 u92 u93 u94 u95 u96 u97 u98 u99 u100 u101 u102 u103 u104 u105 u106 u107 u108 u109 u110 u111 u112 u113 u114 u115 u116 u117 u118 u119 u120 : Value} {g h : Nat} {bits one ring lim room mss ini lea mo algo fst gr cap bur slo chal evy : Int} {Q : Exit → Act → World → Prop} {wr : World}
    (HG : wr.heap[g]? = some (.cells #[.int .i64 0, .int .u64 0, .int .i64 0, .int .u64 0, .int .i64 0, .int .u64 0, .int .u64 0, .int .u64 0, .int .u64 0, .int .i64 0, .int .u64 0, .int .u64 0, .int .u64 0, .int .u64 0, .int .u64 0, .int .i64 0, .int .u64 0] 24 (0, 0))) (HH : wr.heap[h]? = some (.cells #[.int .i64 bits, .int .u64 one, .int .i64 ring, .int .u64 lim, .int .i64 room, .int .u64 mss, .int .u64 ini, .int .u64 lea, .int .u64 mo, .int .i64 algo, .int .u64 fst, .int .u64 gr, .int .u64 cap, .int .u64 bur, .int .u64 slo, .int .i64 chal, .int .u64 evy] 24 (0, 0)))
    (hQ : Hid (∀  (x120 : Value) (wx : World), Hid (wx.heap[g]? = some (.cells #[.int .i64 bits, .int .u64 one, .int .i64 ring, .int .u64 lim, .int .i64 room, .int .u64 mss, .int .u64 ini, .int .u64 lea, .int .u64 mo, .int .i64 algo, .int .u64 fst, .int .u64 gr, .int .u64 cap, .int .u64 bur, .int .u64 slo, .int .i64 chal, .int .u64 evy] 24 (0, 0)) ∧ Below g wr wx) → Q .normal ⟨#[u0, u1, .pointer (some ⟨g, 0, none⟩), .pointer (some ⟨h, 0, none⟩), u4, u5, u6, u7, u8, u9, u10, u11, u12, u13, u14, u15, u16, u17, u18, u19, u20, u21, u22, u23, u24, u25, u26, u27, u28, u29, u30, u31, u32, u33, u34, u35, u36, u37, u38, u39, u40, u41, u42, u43, u44, u45, u46, u47, u48, u49, u50, u51, u52, u53, u54, u55, u56, u57, u58, u59, u60, u61, u62, u63, u64, u65, u66, u67, u68, u69, u70, u71, u72, u73, u74, u75, u76, u77, u78, u79, u80, u81, u82, u83, u84, u85, u86, u87, u88, u89, u90, u91, u92, u93, u94, u95, u96, u97, u98, u99, u100, u101, u102, u103, u104, u105, u106, u107, u108, u109, u110, u111, u112, u113, u114, u115, u116, u117, u118, u119, x120], []⟩ wx)) :
    Code.wp Try.prog cfECode Q ⟨#[u0, u1, .pointer (some ⟨g, 0, none⟩), .pointer (some ⟨h, 0, none⟩), u4, u5, u6, u7, u8, u9, u10, u11, u12, u13, u14, u15, u16, u17, u18, u19, u20, u21, u22, u23, u24, u25, u26, u27, u28, u29, u30, u31, u32, u33, u34, u35, u36, u37, u38, u39, u40, u41, u42, u43, u44, u45, u46, u47, u48, u49, u50, u51, u52, u53, u54, u55, u56, u57, u58, u59, u60, u61, u62, u63, u64, u65, u66, u67, u68, u69, u70, u71, u72, u73, u74, u75, u76, u77, u78, u79, u80, u81, u82, u83, u84, u85, u86, u87, u88, u89, u90, u91, u92, u93, u94, u95, u96, u97, u98, u99, u100, u101, u102, u103, u104, u105, u106, u107, u108, u109, u110, u111, u112, u113, u114, u115, u116, u117, u118, u119, u120], []⟩ wr := by
  conv => arg 2; whnf
  have HT : wr.there g 0 (#[.int .i64 bits, .int .u64 one, .int .i64 ring, .int .u64 lim, .int .i64 room, .int .u64 mss, .int .u64 ini, .int .u64 lea, .int .u64 mo, .int .i64 algo, .int .u64 fst, .int .u64 gr, .int .u64 cap, .int .u64 bur, .int .u64 slo, .int .i64 chal, .int .u64 evy] : Array Value).size := by
    have h := there_of HG
    simpa using h
  refine wp_region_lit ?_
  refine wpList_load_row rfl 24 _ rfl _ rfl _ _ _ _ HH Try.underlying24 rfl infoCfg ?_
  simp only [Act.put, List.setIfInBounds_toArray, List.set_cons_succ, List.set_cons_zero]
  refine wpList_store_mid rfl 24 _ _ rfl g 0 #[.int .i64 bits, .int .u64 one, .int .i64 ring, .int .u64 lim, .int .i64 room, .int .u64 mss, .int .u64 ini, .int .u64 lea, .int .u64 mo, .int .i64 algo, .int .u64 fst, .int .u64 gr, .int .u64 cap, .int .u64 bur, .int .u64 slo, .int .i64 chal, .int .u64 evy] rfl rfl HT infoCfg (all_oneCell_toArray (by simp [Value.oneCell'])) ?_
  have hrow := setCells_row g 0 (#[.int .i64 bits, .int .u64 one, .int .i64 ring, .int .u64 lim, .int .i64 room, .int .u64 mss, .int .u64 ini, .int .u64 lea, .int .u64 mo, .int .i64 algo, .int .u64 fst, .int .u64 gr, .int .u64 cap, .int .u64 bur, .int .u64 slo, .int .i64 chal, .int .u64 evy] : Array Value).toList wr #[.int .i64 0, .int .u64 0, .int .i64 0, .int .u64 0, .int .i64 0, .int .u64 0, .int .u64 0, .int .u64 0, .int .u64 0, .int .i64 0, .int .u64 0, .int .u64 0, .int .u64 0, .int .u64 0, .int .u64 0, .int .i64 0, .int .u64 0] _ HG
  have hset : setAll #[.int .i64 0, .int .u64 0, .int .i64 0, .int .u64 0, .int .i64 0, .int .u64 0, .int .u64 0, .int .u64 0, .int .u64 0, .int .i64 0, .int .u64 0, .int .u64 0, .int .u64 0, .int .u64 0, .int .u64 0, .int .i64 0, .int .u64 0] 0 (#[.int .i64 bits, .int .u64 one, .int .i64 ring, .int .u64 lim, .int .i64 room, .int .u64 mss, .int .u64 ini, .int .u64 lea, .int .u64 mo, .int .i64 algo, .int .u64 fst, .int .u64 gr, .int .u64 cap, .int .u64 bur, .int .u64 slo, .int .i64 chal, .int .u64 evy] : Array Value).toList = #[.int .i64 bits, .int .u64 one, .int .i64 ring, .int .u64 lim, .int .i64 room, .int .u64 mss, .int .u64 ini, .int .u64 lea, .int .u64 mo, .int .i64 algo, .int .u64 fst, .int .u64 gr, .int .u64 cap, .int .u64 bur, .int .u64 slo, .int .i64 chal, .int .u64 evy] := by kernel_rfl
  rw [hset] at hrow
  have hbel := setCells_below (Nat.le_refl g) 0 (#[.int .i64 bits, .int .u64 one, .int .i64 ring, .int .u64 lim, .int .i64 room, .int .u64 mss, .int .u64 ini, .int .u64 lea, .int .u64 mo, .int .i64 algo, .int .u64 fst, .int .u64 gr, .int .u64 cap, .int .u64 bur, .int .u64 slo, .int .i64 chal, .int .u64 evy] : Array Value).toList wr wr (Below.refl _ _)
  generalize wr.setCells g 0 (#[.int .i64 bits, .int .u64 one, .int .i64 ring, .int .u64 lim, .int .i64 room, .int .u64 mss, .int .u64 ini, .int .u64 lea, .int .u64 mo, .int .i64 algo, .int .u64 fst, .int .u64 gr, .int .u64 cap, .int .u64 bur, .int .u64 slo, .int .i64 chal, .int .u64 evy] : Array Value).toList = W at *
  clear hset
  have O := Lib.hid (And.intro hrow hbel)
  clear hrow hbel HT HG HH
  simp only [Act.put, wpList]
  exact hQ.out _ _ O
set_option maxHeartbeats 16000000 in
set_option maxRecDepth 100000 in
theorem law_conf (A : Option Addr) (c : Nat) (l : List Int) (w : World) (hr : Rd w 1 A l.length c (U4 l)) (hu : ∀ x ∈ l, isU32 x) :
    Calls Try.prog 17 #[.slice A l.length c] w fun e w' => e = .returned (cfS l).val ∧ Below w.heap.size w w' := by
  have K0 := Lib.hid (fun W (q : Below w.heap.size w W) => law_at A c l 0 W (hr.below q) hu (by omega))
  have U0 := Lib.hid (getD_u32 hu 0)
  obtain ⟨a0, h0⟩ : ∃ x, l.getD 0 0 = x := ⟨_, rfl⟩
  rw [h0] at K0 U0
  have K1 := Lib.hid (fun W (q : Below w.heap.size w W) => law_at A c l 1 W (hr.below q) hu (by omega))
  have U1 := Lib.hid (getD_u32 hu 1)
  obtain ⟨a1, h1⟩ : ∃ x, l.getD 1 0 = x := ⟨_, rfl⟩
  rw [h1] at K1 U1
  have K2 := Lib.hid (fun W (q : Below w.heap.size w W) => law_at A c l 2 W (hr.below q) hu (by omega))
  have U2 := Lib.hid (getD_u32 hu 2)
  obtain ⟨a2, h2⟩ : ∃ x, l.getD 2 0 = x := ⟨_, rfl⟩
  rw [h2] at K2 U2
  have K3 := Lib.hid (fun W (q : Below w.heap.size w W) => law_at A c l 3 W (hr.below q) hu (by omega))
  have U3 := Lib.hid (getD_u32 hu 3)
  obtain ⟨a3, h3⟩ : ∃ x, l.getD 3 0 = x := ⟨_, rfl⟩
  rw [h3] at K3 U3
  have K4 := Lib.hid (fun W (q : Below w.heap.size w W) => law_at A c l 4 W (hr.below q) hu (by omega))
  have U4 := Lib.hid (getD_u32 hu 4)
  obtain ⟨a4, h4⟩ : ∃ x, l.getD 4 0 = x := ⟨_, rfl⟩
  rw [h4] at K4 U4
  have K5 := Lib.hid (fun W (q : Below w.heap.size w W) => law_at A c l 5 W (hr.below q) hu (by omega))
  have U5 := Lib.hid (getD_u32 hu 5)
  obtain ⟨a5, h5⟩ : ∃ x, l.getD 5 0 = x := ⟨_, rfl⟩
  rw [h5] at K5 U5
  have K6 := Lib.hid (fun W (q : Below w.heap.size w W) => law_at A c l 6 W (hr.below q) hu (by omega))
  have U6 := Lib.hid (getD_u32 hu 6)
  obtain ⟨a6, h6⟩ : ∃ x, l.getD 6 0 = x := ⟨_, rfl⟩
  rw [h6] at K6 U6
  have K7 := Lib.hid (fun W (q : Below w.heap.size w W) => law_at A c l 7 W (hr.below q) hu (by omega))
  have U7 := Lib.hid (getD_u32 hu 7)
  obtain ⟨a7, h7⟩ : ∃ x, l.getD 7 0 = x := ⟨_, rfl⟩
  rw [h7] at K7 U7
  have K8 := Lib.hid (fun W (q : Below w.heap.size w W) => law_at A c l 8 W (hr.below q) hu (by omega))
  have U8 := Lib.hid (getD_u32 hu 8)
  obtain ⟨a8, h8⟩ : ∃ x, l.getD 8 0 = x := ⟨_, rfl⟩
  rw [h8] at K8 U8
  have K9 := Lib.hid (fun W (q : Below w.heap.size w W) => law_at A c l 9 W (hr.below q) hu (by omega))
  have U9 := Lib.hid (getD_u32 hu 9)
  obtain ⟨a9, h9⟩ : ∃ x, l.getD 9 0 = x := ⟨_, rfl⟩
  rw [h9] at K9 U9
  have K10 := Lib.hid (fun W (q : Below w.heap.size w W) => law_at A c l 10 W (hr.below q) hu (by omega))
  have U10 := Lib.hid (getD_u32 hu 10)
  obtain ⟨a10, h10⟩ : ∃ x, l.getD 10 0 = x := ⟨_, rfl⟩
  rw [h10] at K10 U10
  have K11 := Lib.hid (fun W (q : Below w.heap.size w W) => law_at A c l 11 W (hr.below q) hu (by omega))
  have U11 := Lib.hid (getD_u32 hu 11)
  obtain ⟨a11, h11⟩ : ∃ x, l.getD 11 0 = x := ⟨_, rfl⟩
  rw [h11] at K11 U11
  have K12 := Lib.hid (fun W (q : Below w.heap.size w W) => law_at A c l 12 W (hr.below q) hu (by omega))
  have U12 := Lib.hid (getD_u32 hu 12)
  obtain ⟨a12, h12⟩ : ∃ x, l.getD 12 0 = x := ⟨_, rfl⟩
  rw [h12] at K12 U12
  have K13 := Lib.hid (fun W (q : Below w.heap.size w W) => law_at A c l 13 W (hr.below q) hu (by omega))
  have U13 := Lib.hid (getD_u32 hu 13)
  obtain ⟨a13, h13⟩ : ∃ x, l.getD 13 0 = x := ⟨_, rfl⟩
  rw [h13] at K13 U13
  have K14 := Lib.hid (fun W (q : Below w.heap.size w W) => law_at A c l 14 W (hr.below q) hu (by omega))
  have U14 := Lib.hid (getD_u32 hu 14)
  obtain ⟨a14, h14⟩ : ∃ x, l.getD 14 0 = x := ⟨_, rfl⟩
  rw [h14] at K14 U14
  have K15 := Lib.hid (fun W (q : Below w.heap.size w W) => law_at A c l 15 W (hr.below q) hu (by omega))
  have U15 := Lib.hid (getD_u32 hu 15)
  obtain ⟨a15, h15⟩ : ∃ x, l.getD 15 0 = x := ⟨_, rfl⟩
  rw [h15] at K15 U15
  have K16 := Lib.hid (fun W (q : Below w.heap.size w W) => law_at A c l 16 W (hr.below q) hu (by omega))
  have U16 := Lib.hid (getD_u32 hu 16)
  obtain ⟨a16, h16⟩ : ∃ x, l.getD 16 0 = x := ⟨_, rfl⟩
  rw [h16] at K16 U16
  obtain ⟨bits, Ebits⟩ : ∃ x : Int, x = if a4 % 4 = 1 then 1 + a4 / 4 % 64 else 64 := ⟨_, rfl⟩
  obtain ⟨one, Eone⟩ : ∃ x : Int, x = if 0 < a5 % 4 then 2 + a5 / 4 % 30 else 0 := ⟨_, rfl⟩
  obtain ⟨lim, Elim⟩ : ∃ x : Int, x = if a7 % 4 = 1 then a7 / 4 % 60 else 4611686018427387903 := ⟨_, rfl⟩
  have HV : Hid ((cfS l).val = .agg #[.int .i64 bits, .int .u64 one, .int .i64 (4 + a6 % 40), .int .u64 lim, .int .i64 (1 + a8 % 300), .int .u64 (1 + a0 % 40), .int .u64 ((2 * (1 + a0 % 40) + a1 % 50) + a2 % 100), .int .u64 (2 * (1 + a0 % 40) + a1 % 50), .int .u64 (((2 * (1 + a0 % 40) + a1 % 50) + a2 % 100) + a3 % 400), .int .i64 (1 + a9 % 2), .int .u64 (1 + a10 % 200000), .int .u64 (1 + a11 % 2000), .int .u64 ((1 + a11 % 2000) + a12 % 400000), .int .u64 ((1 + a0 % 40) + a13 % 400), .int .u64 (1 + a14 % 100000), .int .i64 (a15 % 5), .int .u64 (1 + a16 % 100000)]) := Lib.hid (by
    simp only [cfS, Cfg.val, h0, h1, h2, h3, h4, h5, h6, h7, h8, h9, h10, h11, h12, h13, h14, h15, h16, Ebits, Eone, Elim])
  have Ebits := Lib.hid Ebits
  have Eone := Lib.hid Eone
  have Elim := Lib.hid Elim
  have S := Bx.two w #[.int .i64 0, .int .u64 0, .int .i64 0, .int .u64 0, .int .i64 0, .int .u64 0, .int .u64 0, .int .u64 0, .int .u64 0, .int .i64 0, .int .u64 0, .int .u64 0, .int .u64 0, .int .u64 0, .int .u64 0, .int .i64 0, .int .u64 0] #[.int .i64 0, .int .u64 0, .int .i64 0, .int .u64 0, .int .i64 0, .int .u64 0, .int .u64 0, .int .u64 0, .int .u64 0, .int .i64 0, .int .u64 0, .int .u64 0, .int .u64 0, .int .u64 0, .int .u64 0, .int .i64 0, .int .u64 0] 24 24
  clear hr hu h0 h1 h2 h3 h4 h5 h6 h7 h8 h9 h10 h11 h12 h13 h14 h15 h16
  go_enter Try.func17, Try.ntmps17
  go_upto_region 2 with fail
  generalize (w.alloc (.cells #[.int .i64 0, .int .u64 0, .int .i64 0, .int .u64 0, .int .i64 0, .int .u64 0, .int .u64 0, .int .u64 0, .int .u64 0, .int .i64 0, .int .u64 0, .int .u64 0, .int .u64 0, .int .u64 0, .int .u64 0, .int .i64 0, .int .u64 0] 24)).alloc (.cells #[.int .i64 0, .int .u64 0, .int .i64 0, .int .u64 0, .int .i64 0, .int .u64 0, .int .u64 0, .int .u64 0, .int .u64 0, .int .i64 0, .int .u64 0, .int .u64 0, .int .u64 0, .int .u64 0, .int .u64 0, .int .i64 0, .int .u64 0] 24) = w0 at *
  have a := And.intro (cells_of (S.get 0 rfl)) (cells_of (S.get 1 rfl))
  have t0 : a0.tmod 40 = a0 % 40 := tmod_e U0.out.1
  go_wp2_with fail
  refine (K0.out _ S.bel).mono ?_
  rintro e w1 ⟨rfl, q⟩
  replace S := S.stepQ q
  clear q a
  have a := And.intro (cells_of (S.get 0 rfl)) (cells_of (S.get 1 rfl))
  replace S := S.set 1 5 (.int .u64 (1 + a0 % 40)) rfl
  simp only [List.setIfInBounds_toArray, List.set_cons_succ, List.set_cons_zero] at S
  go_upto_region 3 with fail
  generalize w1.setCell ⟨w.heap.size + 1, 5, none⟩ (.int .u64 (1 + a0 % 40)) = w2 at *
  clear a t0
  have Bmss : 1 ≤ (1 + a0 % 40) ∧ (1 + a0 % 40) ≤ 40 := by
    have u0 := U0.out; unfold isU32 at u0
    omega
  generalize (1 + a0 % 40) = mss at *
  have a := And.intro (cells_of (S.get 0 rfl)) (cells_of (S.get 1 rfl))
  have t1 : a1.tmod 50 = a1 % 50 := tmod_e U1.out.1
  refine wp_region_qtt 8 (by kernel_rfl) (by kernel_rfl) ?_
  simp only [List.take_succ_cons, List.take_zero, List.drop_succ_cons, List.drop_zero]
  have KK : Hid (∀ k, Calls Try.prog 37 #[.slice A l.length c, .int .i64 1] (w2.drewN k) fun e w' => e = .returned (.int .u64 a1) ∧ Qt (w2.drewN k) w') := Lib.hid (fun k => K1.out (w2.drewN k) (S.bel.trans ((show Qt w2 (w2.drewN k) from ⟨k, rfl⟩).below.mono S.bel.size)))
  repeat (first | go_big_quiet_step ((go_at_call 37; with_reducible exact Qt.callN (KK.out _))) | quiet_step ((go_at_call 37; with_reducible exact Qt.callN (KK.out _))))
  refine wpQuiet_nil ?_
  intro w3 q
  replace S := S.stepQ q
  clear q a KK
  have a := And.intro (cells_of (S.get 0 rfl)) (cells_of (S.get 1 rfl))
  replace S := S.set 1 7 (.int .u64 (2 * mss + a1 % 50)) rfl
  simp only [List.setIfInBounds_toArray, List.set_cons_succ, List.set_cons_zero] at S
  go_upto_region 4 with fail
  generalize w3.setCell ⟨w.heap.size + 1, 7, none⟩ (.int .u64 (2 * mss + a1 % 50)) = w4 at *
  clear a t1
  have Blea : 2 ≤ (2 * mss + a1 % 50) ∧ (2 * mss + a1 % 50) ≤ 129 := by
    have u1 := U1.out; unfold isU32 at u1
    omega
  generalize (2 * mss + a1 % 50) = lea at *
  have a := And.intro (cells_of (S.get 0 rfl)) (cells_of (S.get 1 rfl))
  have t2 : a2.tmod 100 = a2 % 100 := tmod_e U2.out.1
  refine wp_region_qtt 7 (by kernel_rfl) (by kernel_rfl) ?_
  simp only [List.take_succ_cons, List.take_zero, List.drop_succ_cons, List.drop_zero]
  have KK : Hid (∀ k, Calls Try.prog 37 #[.slice A l.length c, .int .i64 2] (w4.drewN k) fun e w' => e = .returned (.int .u64 a2) ∧ Qt (w4.drewN k) w') := Lib.hid (fun k => K2.out (w4.drewN k) (S.bel.trans ((show Qt w4 (w4.drewN k) from ⟨k, rfl⟩).below.mono S.bel.size)))
  repeat (first | go_big_quiet_step ((go_at_call 37; with_reducible exact Qt.callN (KK.out _))) | quiet_step ((go_at_call 37; with_reducible exact Qt.callN (KK.out _))))
  refine wpQuiet_nil ?_
  intro w5 q
  replace S := S.stepQ q
  clear q a KK
  have a := And.intro (cells_of (S.get 0 rfl)) (cells_of (S.get 1 rfl))
  replace S := S.set 1 6 (.int .u64 (lea + a2 % 100)) rfl
  simp only [List.setIfInBounds_toArray, List.set_cons_succ, List.set_cons_zero] at S
  go_upto_region 5 with fail
  generalize w5.setCell ⟨w.heap.size + 1, 6, none⟩ (.int .u64 (lea + a2 % 100)) = w6 at *
  clear a t2
  have Bini : 2 ≤ (lea + a2 % 100) ∧ (lea + a2 % 100) ≤ 228 := by
    have u2 := U2.out; unfold isU32 at u2
    omega
  generalize (lea + a2 % 100) = ini at *
  have a := And.intro (cells_of (S.get 0 rfl)) (cells_of (S.get 1 rfl))
  have t3 : a3.tmod 400 = a3 % 400 := tmod_e U3.out.1
  refine wp_region_qtt 7 (by kernel_rfl) (by kernel_rfl) ?_
  simp only [List.take_succ_cons, List.take_zero, List.drop_succ_cons, List.drop_zero]
  have KK : Hid (∀ k, Calls Try.prog 37 #[.slice A l.length c, .int .i64 3] (w6.drewN k) fun e w' => e = .returned (.int .u64 a3) ∧ Qt (w6.drewN k) w') := Lib.hid (fun k => K3.out (w6.drewN k) (S.bel.trans ((show Qt w6 (w6.drewN k) from ⟨k, rfl⟩).below.mono S.bel.size)))
  repeat (first | go_big_quiet_step ((go_at_call 37; with_reducible exact Qt.callN (KK.out _))) | quiet_step ((go_at_call 37; with_reducible exact Qt.callN (KK.out _))))
  refine wpQuiet_nil ?_
  intro w7 q
  replace S := S.stepQ q
  clear q a KK
  have a := And.intro (cells_of (S.get 0 rfl)) (cells_of (S.get 1 rfl))
  replace S := S.set 1 8 (.int .u64 (ini + a3 % 400)) rfl
  simp only [List.setIfInBounds_toArray, List.set_cons_succ, List.set_cons_zero] at S
  go_upto_region 6 with fail
  generalize w7.setCell ⟨w.heap.size + 1, 8, none⟩ (.int .u64 (ini + a3 % 400)) = w8 at *
  clear a t3
  have Bmo : 2 ≤ (ini + a3 % 400) ∧ (ini + a3 % 400) ≤ 627 := by
    have u3 := U3.out; unfold isU32 at u3
    omega
  generalize (ini + a3 % 400) = mo at *
  have a := And.intro (cells_of (S.get 0 rfl)) (cells_of (S.get 1 rfl))
  replace S := S.set 1 0 (.int .i64 64) rfl
  simp only [List.setIfInBounds_toArray, List.set_cons_succ, List.set_cons_zero] at S
  go_upto_region 7 with fail
  generalize w8.setCell ⟨w.heap.size + 1, 0, none⟩ (.int .i64 64) = w9 at *
  clear a
  have a := And.intro (cells_of (S.get 0 rfl)) (cells_of (S.get 1 rfl))
  obtain ⟨qb, hqb⟩ : ∃ q : Bool, decide (a4 % 4 = 1) = q := ⟨_, rfl⟩
  have t4 : a4.tmod 4 = a4 % 4 := tmod_e U4.out.1
  have b0 : (a4 % 4 == 1) = qb := by first | exact hqb | (rw [← hqb]; rfl) | rw [← hqb]
  have b1 : decide (a4 % 4 = 1) = qb := by first | exact hqb | (rw [← hqb]; rfl) | rw [← hqb]
  have HQB : Hid (qb = true ↔ (a4 % 4 = 1)) := Lib.hid (by rw [← hqb]; exact decide_eq_true_iff)
  go_wp2_with fail
  refine (K4.out _ S.bel).mono ?_
  rintro e w10 ⟨rfl, q⟩
  replace S := S.stepQ q
  clear q a
  have a := And.intro (cells_of (S.get 0 rfl)) (cells_of (S.get 1 rfl))
  go_upto_if 35 with fail
  clear t4 b0 b1
  go_cut [] (fun wx => Hid (Bx w wx [(w.heap.size, #[.int .i64 0, .int .u64 0, .int .i64 0, .int .u64 0, .int .i64 0, .int .u64 0, .int .u64 0, .int .u64 0, .int .u64 0, .int .i64 0, .int .u64 0, .int .u64 0, .int .u64 0, .int .u64 0, .int .u64 0, .int .i64 0, .int .u64 0], 24), (w.heap.size + 1, #[.int .i64 bits, .int .u64 0, .int .i64 0, .int .u64 0, .int .i64 0, .int .u64 mss, .int .u64 ini, .int .u64 lea, .int .u64 mo, .int .i64 0, .int .u64 0, .int .u64 0, .int .u64 0, .int .u64 0, .int .u64 0, .int .i64 0, .int .u64 0], 24)]))
  case first =>
    clear hqb
    cases qb
    · have ev : bits = 64 := by rw [Ebits.out, if_neg (fun h => absurd (HQB.out.2 h) (by decide))]
      have ev := Lib.hid ev
      clear HQB
      go_wp2_with fail
      go_meet
      rw [ev.out]
      exact Lib.hid S
    · have ev : bits = 1 + a4 / 4 % 64 := by rw [Ebits.out, if_pos (HQB.out.1 rfl)]
      have ev := Lib.hid ev
      clear HQB
      have u4 := U4.out
      unfold isU32 at u4
      have d4 : a4.tdiv 4 = a4 / 4 := tdiv_e U4.out.1
      have v4 : (a4 / 4).tmod 64 = a4 / 4 % 64 := tmod_e (by have u4 := U4.out; unfold isU32 at u4; omega)
      have c4 : IntKind.i64.wrap (a4 / 4 % 64) = a4 / 4 % 64 := IntWalk.i64_in _ (by have u4 := U4.out; unfold isU32 at u4; omega)
    
      go_wp2_with fail
      refine (K4.out _ S.bel).mono ?_
      rintro e w11 ⟨rfl, q⟩
      replace S := S.stepQ q
      clear q a
      have a := And.intro (cells_of (S.get 0 rfl)) (cells_of (S.get 1 rfl))
      replace S := S.set 1 0 (.int .i64 (1 + a4 / 4 % 64)) rfl
      simp only [List.setIfInBounds_toArray, List.set_cons_succ, List.set_cons_zero] at S
      go_wp2_with fail
      go_meet
      rw [ev.out]
      exact Lib.hid S
  replace S := hcut.out
  clear hcut a hqb HQB
  generalize wc = w12 at *
  have a := And.intro (cells_of (S.get 0 rfl)) (cells_of (S.get 1 rfl))
  obtain ⟨qb, hqb⟩ : ∃ q : Bool, decide (0 < a5 % 4) = q := ⟨_, rfl⟩
  have t5 : a5.tmod 4 = a5 % 4 := tmod_e U5.out.1
  have b0 : decide (0 < a5 % 4) = qb := by first | exact hqb | (rw [← hqb]; rfl) | rw [← hqb]
  have HQB : Hid (qb = true ↔ (0 < a5 % 4)) := Lib.hid (by rw [← hqb]; exact decide_eq_true_iff)
  go_wp2_with fail
  refine (K5.out _ S.bel).mono ?_
  rintro e w13 ⟨rfl, q⟩
  replace S := S.stepQ q
  clear q a
  have a := And.intro (cells_of (S.get 0 rfl)) (cells_of (S.get 1 rfl))
  go_upto_if 46 with fail
  clear t5 b0
  go_cut [] (fun wx => Hid (Bx w wx [(w.heap.size, #[.int .i64 0, .int .u64 0, .int .i64 0, .int .u64 0, .int .i64 0, .int .u64 0, .int .u64 0, .int .u64 0, .int .u64 0, .int .i64 0, .int .u64 0, .int .u64 0, .int .u64 0, .int .u64 0, .int .u64 0, .int .i64 0, .int .u64 0], 24), (w.heap.size + 1, #[.int .i64 bits, .int .u64 one, .int .i64 0, .int .u64 0, .int .i64 0, .int .u64 mss, .int .u64 ini, .int .u64 lea, .int .u64 mo, .int .i64 0, .int .u64 0, .int .u64 0, .int .u64 0, .int .u64 0, .int .u64 0, .int .i64 0, .int .u64 0], 24)]))
  case first =>
    clear hqb
    cases qb
    · have ev : one = 0 := by rw [Eone.out, if_neg (fun h => absurd (HQB.out.2 h) (by decide))]
      have ev := Lib.hid ev
      clear HQB
      go_wp2_with fail
      go_meet
      rw [ev.out]
      exact Lib.hid S
    · have ev : one = 2 + a5 / 4 % 30 := by rw [Eone.out, if_pos (HQB.out.1 rfl)]
      have ev := Lib.hid ev
      clear HQB
      have u5 := U5.out
      unfold isU32 at u5
      have d5 : a5.tdiv 4 = a5 / 4 := tdiv_e U5.out.1
      have v5 : (a5 / 4).tmod 30 = a5 / 4 % 30 := tmod_e (by have u5 := U5.out; unfold isU32 at u5; omega)
    
      go_wp2_with fail
      refine (K5.out _ S.bel).mono ?_
      rintro e w14 ⟨rfl, q⟩
      replace S := S.stepQ q
      clear q a
      have a := And.intro (cells_of (S.get 0 rfl)) (cells_of (S.get 1 rfl))
      replace S := S.set 1 1 (.int .u64 (2 + a5 / 4 % 30)) rfl
      simp only [List.setIfInBounds_toArray, List.set_cons_succ, List.set_cons_zero] at S
      go_wp2_with fail
      go_meet
      rw [ev.out]
      exact Lib.hid S
  replace S := hcut.out
  clear hcut a hqb HQB
  generalize wc = w15 at *
  have a := And.intro (cells_of (S.get 0 rfl)) (cells_of (S.get 1 rfl))
  have t6 : a6.tmod 40 = a6 % 40 := tmod_e U6.out.1
  go_wp2_with fail
  refine (K6.out _ S.bel).mono ?_
  rintro e w16 ⟨rfl, q⟩
  replace S := S.stepQ q
  clear q a
  have a := And.intro (cells_of (S.get 0 rfl)) (cells_of (S.get 1 rfl))
  replace S := S.set 1 2 (.int .i64 (4 + a6 % 40)) rfl
  simp only [List.setIfInBounds_toArray, List.set_cons_succ, List.set_cons_zero] at S
  go_upto_region 12 with fail
  generalize w16.setCell ⟨w.heap.size + 1, 2, none⟩ (.int .i64 (4 + a6 % 40)) = w17 at *
  clear a t6
  have Bring : 4 ≤ (4 + a6 % 40) ∧ (4 + a6 % 40) ≤ 43 := by
    have u6 := U6.out; unfold isU32 at u6
    omega
  generalize (4 + a6 % 40) = ring at *
  have a := And.intro (cells_of (S.get 0 rfl)) (cells_of (S.get 1 rfl))
  replace S := S.set 1 3 (.int .u64 4611686018427387903) rfl
  simp only [List.setIfInBounds_toArray, List.set_cons_succ, List.set_cons_zero] at S
  go_upto_region 13 with fail
  generalize w17.setCell ⟨w.heap.size + 1, 3, none⟩ (.int .u64 4611686018427387903) = w18 at *
  clear a
  have a := And.intro (cells_of (S.get 0 rfl)) (cells_of (S.get 1 rfl))
  obtain ⟨qb, hqb⟩ : ∃ q : Bool, decide (a7 % 4 = 1) = q := ⟨_, rfl⟩
  have t7 : a7.tmod 4 = a7 % 4 := tmod_e U7.out.1
  have b0 : (a7 % 4 == 1) = qb := by first | exact hqb | (rw [← hqb]; rfl) | rw [← hqb]
  have b1 : decide (a7 % 4 = 1) = qb := by first | exact hqb | (rw [← hqb]; rfl) | rw [← hqb]
  have HQB : Hid (qb = true ↔ (a7 % 4 = 1)) := Lib.hid (by rw [← hqb]; exact decide_eq_true_iff)
  go_wp2_with fail
  refine (K7.out _ S.bel).mono ?_
  rintro e w19 ⟨rfl, q⟩
  replace S := S.stepQ q
  clear q a
  have a := And.intro (cells_of (S.get 0 rfl)) (cells_of (S.get 1 rfl))
  go_upto_if 63 with fail
  clear t7 b0 b1
  go_cut [] (fun wx => Hid (Bx w wx [(w.heap.size, #[.int .i64 0, .int .u64 0, .int .i64 0, .int .u64 0, .int .i64 0, .int .u64 0, .int .u64 0, .int .u64 0, .int .u64 0, .int .i64 0, .int .u64 0, .int .u64 0, .int .u64 0, .int .u64 0, .int .u64 0, .int .i64 0, .int .u64 0], 24), (w.heap.size + 1, #[.int .i64 bits, .int .u64 one, .int .i64 ring, .int .u64 lim, .int .i64 0, .int .u64 mss, .int .u64 ini, .int .u64 lea, .int .u64 mo, .int .i64 0, .int .u64 0, .int .u64 0, .int .u64 0, .int .u64 0, .int .u64 0, .int .i64 0, .int .u64 0], 24)]))
  case first =>
    clear hqb
    cases qb
    · have ev : lim = 4611686018427387903 := by rw [Elim.out, if_neg (fun h => absurd (HQB.out.2 h) (by decide))]
      have ev := Lib.hid ev
      clear HQB
      go_wp2_with fail
      go_meet
      rw [ev.out]
      exact Lib.hid S
    · have ev : lim = a7 / 4 % 60 := by rw [Elim.out, if_pos (HQB.out.1 rfl)]
      have ev := Lib.hid ev
      clear HQB
      have u7 := U7.out
      unfold isU32 at u7
      have d7 : a7.tdiv 4 = a7 / 4 := tdiv_e U7.out.1
      have v7 : (a7 / 4).tmod 60 = a7 / 4 % 60 := tmod_e (by have u7 := U7.out; unfold isU32 at u7; omega)
      go_wp2_with fail
      refine (K7.out _ S.bel).mono ?_
      rintro e w20 ⟨rfl, q⟩
      replace S := S.stepQ q
      clear q a
      have a := And.intro (cells_of (S.get 0 rfl)) (cells_of (S.get 1 rfl))
      replace S := S.set 1 3 (.int .u64 (a7 / 4 % 60)) rfl
      simp only [List.setIfInBounds_toArray, List.set_cons_succ, List.set_cons_zero] at S
      go_wp2_with fail
      go_meet
      rw [ev.out]
      exact Lib.hid S
  replace S := hcut.out
  clear hcut a hqb HQB
  generalize wc = w21 at *
  have a := And.intro (cells_of (S.get 0 rfl)) (cells_of (S.get 1 rfl))
  have t8 : a8.tmod 300 = a8 % 300 := tmod_e U8.out.1
  go_wp2_with fail
  refine (K8.out _ S.bel).mono ?_
  rintro e w22 ⟨rfl, q⟩
  replace S := S.stepQ q
  clear q a
  have a := And.intro (cells_of (S.get 0 rfl)) (cells_of (S.get 1 rfl))
  replace S := S.set 1 4 (.int .i64 (1 + a8 % 300)) rfl
  simp only [List.setIfInBounds_toArray, List.set_cons_succ, List.set_cons_zero] at S
  go_upto_region 16 with fail
  generalize w22.setCell ⟨w.heap.size + 1, 4, none⟩ (.int .i64 (1 + a8 % 300)) = w23 at *
  clear a t8
  have Broom : 1 ≤ (1 + a8 % 300) ∧ (1 + a8 % 300) ≤ 300 := by
    have u8 := U8.out; unfold isU32 at u8
    omega
  generalize (1 + a8 % 300) = room at *
  have a := And.intro (cells_of (S.get 0 rfl)) (cells_of (S.get 1 rfl))
  have t9 : a9.tmod 2 = a9 % 2 := tmod_e U9.out.1
  go_wp2_with fail
  refine (K9.out _ S.bel).mono ?_
  rintro e w24 ⟨rfl, q⟩
  replace S := S.stepQ q
  clear q a
  have a := And.intro (cells_of (S.get 0 rfl)) (cells_of (S.get 1 rfl))
  replace S := S.set 1 9 (.int .i64 (1 + a9 % 2)) rfl
  simp only [List.setIfInBounds_toArray, List.set_cons_succ, List.set_cons_zero] at S
  go_upto_region 17 with fail
  generalize w24.setCell ⟨w.heap.size + 1, 9, none⟩ (.int .i64 (1 + a9 % 2)) = w25 at *
  clear a t9
  have Balgo : 1 ≤ (1 + a9 % 2) ∧ (1 + a9 % 2) ≤ 2 := by
    have u9 := U9.out; unfold isU32 at u9
    omega
  generalize (1 + a9 % 2) = algo at *
  have a := And.intro (cells_of (S.get 0 rfl)) (cells_of (S.get 1 rfl))
  have t10 : a10.tmod 200000 = a10 % 200000 := tmod_e U10.out.1
  go_wp2_with fail
  refine (K10.out _ S.bel).mono ?_
  rintro e w26 ⟨rfl, q⟩
  replace S := S.stepQ q
  clear q a
  have a := And.intro (cells_of (S.get 0 rfl)) (cells_of (S.get 1 rfl))
  replace S := S.set 1 10 (.int .u64 (1 + a10 % 200000)) rfl
  simp only [List.setIfInBounds_toArray, List.set_cons_succ, List.set_cons_zero] at S
  go_upto_region 18 with fail
  generalize w26.setCell ⟨w.heap.size + 1, 10, none⟩ (.int .u64 (1 + a10 % 200000)) = w27 at *
  clear a t10
  have Bfst : 1 ≤ (1 + a10 % 200000) ∧ (1 + a10 % 200000) ≤ 200000 := by
    have u10 := U10.out; unfold isU32 at u10
    omega
  generalize (1 + a10 % 200000) = fst at *
  have a := And.intro (cells_of (S.get 0 rfl)) (cells_of (S.get 1 rfl))
  have t11 : a11.tmod 2000 = a11 % 2000 := tmod_e U11.out.1
  go_wp2_with fail
  refine (K11.out _ S.bel).mono ?_
  rintro e w28 ⟨rfl, q⟩
  replace S := S.stepQ q
  clear q a
  have a := And.intro (cells_of (S.get 0 rfl)) (cells_of (S.get 1 rfl))
  replace S := S.set 1 11 (.int .u64 (1 + a11 % 2000)) rfl
  simp only [List.setIfInBounds_toArray, List.set_cons_succ, List.set_cons_zero] at S
  go_upto_region 19 with fail
  generalize w28.setCell ⟨w.heap.size + 1, 11, none⟩ (.int .u64 (1 + a11 % 2000)) = w29 at *
  clear a t11
  have Bgr : 1 ≤ (1 + a11 % 2000) ∧ (1 + a11 % 2000) ≤ 2000 := by
    have u11 := U11.out; unfold isU32 at u11
    omega
  generalize (1 + a11 % 2000) = gr at *
  have a := And.intro (cells_of (S.get 0 rfl)) (cells_of (S.get 1 rfl))
  have t12 : a12.tmod 400000 = a12 % 400000 := tmod_e U12.out.1
  refine wp_region_qtt 7 (by kernel_rfl) (by kernel_rfl) ?_
  simp only [List.take_succ_cons, List.take_zero, List.drop_succ_cons, List.drop_zero]
  have KK : Hid (∀ k, Calls Try.prog 37 #[.slice A l.length c, .int .i64 12] (w29.drewN k) fun e w' => e = .returned (.int .u64 a12) ∧ Qt (w29.drewN k) w') := Lib.hid (fun k => K12.out (w29.drewN k) (S.bel.trans ((show Qt w29 (w29.drewN k) from ⟨k, rfl⟩).below.mono S.bel.size)))
  repeat (first | go_big_quiet_step ((go_at_call 37; with_reducible exact Qt.callN (KK.out _))) | quiet_step ((go_at_call 37; with_reducible exact Qt.callN (KK.out _))))
  refine wpQuiet_nil ?_
  intro w30 q
  replace S := S.stepQ q
  clear q a KK
  have a := And.intro (cells_of (S.get 0 rfl)) (cells_of (S.get 1 rfl))
  replace S := S.set 1 12 (.int .u64 (gr + a12 % 400000)) rfl
  simp only [List.setIfInBounds_toArray, List.set_cons_succ, List.set_cons_zero] at S
  go_upto_region 20 with fail
  generalize w30.setCell ⟨w.heap.size + 1, 12, none⟩ (.int .u64 (gr + a12 % 400000)) = w31 at *
  clear a t12
  have Bcap : 1 ≤ (gr + a12 % 400000) ∧ (gr + a12 % 400000) ≤ 401999 := by
    have u12 := U12.out; unfold isU32 at u12
    omega
  generalize (gr + a12 % 400000) = cap at *
  have a := And.intro (cells_of (S.get 0 rfl)) (cells_of (S.get 1 rfl))
  have t13 : a13.tmod 400 = a13 % 400 := tmod_e U13.out.1
  refine wp_region_qtt 7 (by kernel_rfl) (by kernel_rfl) ?_
  simp only [List.take_succ_cons, List.take_zero, List.drop_succ_cons, List.drop_zero]
  have KK : Hid (∀ k, Calls Try.prog 37 #[.slice A l.length c, .int .i64 13] (w31.drewN k) fun e w' => e = .returned (.int .u64 a13) ∧ Qt (w31.drewN k) w') := Lib.hid (fun k => K13.out (w31.drewN k) (S.bel.trans ((show Qt w31 (w31.drewN k) from ⟨k, rfl⟩).below.mono S.bel.size)))
  repeat (first | go_big_quiet_step ((go_at_call 37; with_reducible exact Qt.callN (KK.out _))) | quiet_step ((go_at_call 37; with_reducible exact Qt.callN (KK.out _))))
  refine wpQuiet_nil ?_
  intro w32 q
  replace S := S.stepQ q
  clear q a KK
  have a := And.intro (cells_of (S.get 0 rfl)) (cells_of (S.get 1 rfl))
  replace S := S.set 1 13 (.int .u64 (mss + a13 % 400)) rfl
  simp only [List.setIfInBounds_toArray, List.set_cons_succ, List.set_cons_zero] at S
  go_upto_region 21 with fail
  generalize w32.setCell ⟨w.heap.size + 1, 13, none⟩ (.int .u64 (mss + a13 % 400)) = w33 at *
  clear a t13
  have Bbur : 1 ≤ (mss + a13 % 400) ∧ (mss + a13 % 400) ≤ 439 := by
    have u13 := U13.out; unfold isU32 at u13
    omega
  generalize (mss + a13 % 400) = bur at *
  have a := And.intro (cells_of (S.get 0 rfl)) (cells_of (S.get 1 rfl))
  have t14 : a14.tmod 100000 = a14 % 100000 := tmod_e U14.out.1
  go_wp2_with fail
  refine (K14.out _ S.bel).mono ?_
  rintro e w34 ⟨rfl, q⟩
  replace S := S.stepQ q
  clear q a
  have a := And.intro (cells_of (S.get 0 rfl)) (cells_of (S.get 1 rfl))
  replace S := S.set 1 14 (.int .u64 (1 + a14 % 100000)) rfl
  simp only [List.setIfInBounds_toArray, List.set_cons_succ, List.set_cons_zero] at S
  go_upto_region 22 with fail
  generalize w34.setCell ⟨w.heap.size + 1, 14, none⟩ (.int .u64 (1 + a14 % 100000)) = w35 at *
  clear a t14
  have Bslo : 1 ≤ (1 + a14 % 100000) ∧ (1 + a14 % 100000) ≤ 100000 := by
    have u14 := U14.out; unfold isU32 at u14
    omega
  generalize (1 + a14 % 100000) = slo at *
  have a := And.intro (cells_of (S.get 0 rfl)) (cells_of (S.get 1 rfl))
  have t15 : a15.tmod 5 = a15 % 5 := tmod_e U15.out.1
  go_wp2_with fail
  refine (K15.out _ S.bel).mono ?_
  rintro e w36 ⟨rfl, q⟩
  replace S := S.stepQ q
  clear q a
  have a := And.intro (cells_of (S.get 0 rfl)) (cells_of (S.get 1 rfl))
  replace S := S.set 1 15 (.int .i64 (a15 % 5)) rfl
  simp only [List.setIfInBounds_toArray, List.set_cons_succ, List.set_cons_zero] at S
  go_upto_region 23 with fail
  generalize w36.setCell ⟨w.heap.size + 1, 15, none⟩ (.int .i64 (a15 % 5)) = w37 at *
  clear a t15
  have Bchal : 0 ≤ (a15 % 5) ∧ (a15 % 5) ≤ 4 := by
    have u15 := U15.out; unfold isU32 at u15
    omega
  generalize (a15 % 5) = chal at *
  have a := And.intro (cells_of (S.get 0 rfl)) (cells_of (S.get 1 rfl))
  have t16 : a16.tmod 100000 = a16 % 100000 := tmod_e U16.out.1
  go_wp2_with fail
  refine (K16.out _ S.bel).mono ?_
  rintro e w38 ⟨rfl, q⟩
  replace S := S.stepQ q
  clear q a
  have a := And.intro (cells_of (S.get 0 rfl)) (cells_of (S.get 1 rfl))
  replace S := S.set 1 16 (.int .u64 (1 + a16 % 100000)) rfl
  simp only [List.setIfInBounds_toArray, List.set_cons_succ, List.set_cons_zero] at S
  go_upto_region 24 with fail
  generalize w38.setCell ⟨w.heap.size + 1, 16, none⟩ (.int .u64 (1 + a16 % 100000)) = w39 at *
  clear a t16
  have Bevy : 1 ≤ (1 + a16 % 100000) ∧ (1 + a16 % 100000) ≤ 100000 := by
    have u16 := U16.out; unfold isU32 at u16
    omega
  generalize (1 + a16 % 100000) = evy at *
  have a := And.intro (cells_of (S.get 0 rfl)) (cells_of (S.get 1 rfl))
  have HG := Lib.hid (S.get 0 rfl)
  have HH := Lib.hid (S.get 1 rfl)
  have SB := Lib.hid S.bel
  clear S a K0 U0 K1 U1 K2 U2 K3 U3 K4 U4 K5 U5 K6 U6 K7 U7 K8 U8 K9 U9 K10 U10 K11 U11 K12 U12 K13 U13 K14 U14 K15 U15 K16 U16 Bmss Blea Bini Bmo Bring Broom Balgo Bfst Bgr Bcap Bbur Bslo Bchal Bevy
  refine cfE HG.out HH.out (Lib.hid ?_)
  intro  _ w99 hG
  obtain ⟨h1, h2⟩ := hG.out
  have E := Lib.hid (And.intro h1 (SB.out.trans h2))
  clear h1 h2 hG HG HH SB
  go_wp2
  (try simp only [Exit.inBlock, Exit.then])
  exact bodyPost_ret (results_cell_row rfl _ _ (w.heap.size) _ _ _ _ rfl E.out.1 Try.underlying24 rfl infoCfg) rfl ⟨congrArg Ending.returned HV.out.symm, E.out.2⟩
end Go.Proofs.Ytpkbimmhimgamaa
