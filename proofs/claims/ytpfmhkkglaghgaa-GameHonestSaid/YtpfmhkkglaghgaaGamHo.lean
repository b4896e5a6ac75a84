/-
  The law GameHonest: purely, and walked.
-/
import Derived.Test.YtpfmhkkglaghgaaGamLu
namespace Go.Proofs.Ytpfmhkkglaghgaa
set_option linter.unusedSimpArgs false
set_option linter.unusedVariables false
set_option linter.unnecessarySimpa false
open Go.RowKit

/-- An honest move. -/
structure Hon (g : Gm) (m : Mv) : Prop where
  sub : ∀ i, m.claim.testBit i = true → g.came.testBit i = true
  mark : ∀ i, m.mark.testBit i = (g.marked.testBit i && m.claim.testBit i)
  guess : m.guess = false
  flip : m.flip = false
theorem Hon.ok {g : Gm} {m : Mv} (hg : g.ok) (hm : m.ok g.n) (h : Hon g m) (k : Nat) (v : Int) : (okX g k m v && okO g k m) = true := by
  have p16 : 2 ^ g.n ≤ 16 := Nat.pow_le_pow_right (n := 2) (by decide) (j := 4) hg.n4
  have hca : g.came < 16 := Nat.lt_of_lt_of_le hg.came p16
  have ec : ∀ i, (m.claim &&& g.came).testBit i = m.claim.testBit i := fun i => by
    rw [Nat.testBit_and]
    cases hx : m.claim.testBit i with
    | false => rfl
    | true => rw [h.sub i hx]; rfl
  have e0 : guessX g m v = 0 := by
    unfold guessX
    rw [h.guess, (sub_bits (hm.lt hg).1 hca).2 (fun i _ hi => h.sub i hi)]
    rfl
  rw [Bool.and_eq_true]
  refine ⟨decide_eq_true ?_, decide_eq_true ?_⟩
  · rw [e0, Nat.xor_zero, xorTo_if]
    exact xorIf_congr g.n (fun i _ => ⟨(ec i).symm, fun _ => rfl⟩)
  · rw [odTo_if, h.flip]
    refine odIf_congr g.n (fun i _ => ?_)
    rw [ec i, h.mark i]
    cases m.claim.testBit i <;> cases g.marked.testBit i <;> simp
theorem sub_last (g : Gm) {o m : Mv} {f : Nat} (hg : g.ok) (e : g.moves = [o, o, m]) (hf : f < g.n) (hc : g.came.testBit f = true) (ho : o.claim = 2 ^ f) (hof : o.fr = f) (hmf : m.fr = f) (h1 : Hon g o) (h2 : Hon g m) (h0 : m.claim ≠ 0) (k : Nat) :
    ∃ x : Vd, (playedN g k 0).map (·.1) = [⟨2, 0, f, false⟩, ⟨1, 3, 0, false⟩, x] ∧ (x.kind = 2 ∨ x = ⟨1, 3, 0, false⟩) := by
  have om := hg.moves o (by rw [e]; simp)
  have mm := hg.moves m (by rw [e]; simp)
  have o0 : o.claim ≠ 0 := by rw [ho]; exact Nat.ne_of_gt (Nat.pow_pos (by decide))
  have tr : ∀ v, trigN g k o v = nonN g.b k f := fun v => by unfold trigN; rw [hof, hc, h1.guess]; rfl
  have cb : ∀ i, o.claim.testBit i = decide (f = i) := fun i => by rw [ho, Nat.testBit_two_pow]
  have l1 : ∀ v, lookN g k o v 0 = some f := fun v => by
    cases hL : lookN g k o v 0 with
    | some i =>
      have := (lookN_some hL).2.1
      rw [cb i] at this
      rw [of_decide_eq_true this]
    | none =>
      unfold lookN at hL
      rw [List.find?_eq_none] at hL
      have := hL f (List.mem_range.2 hf)
      rw [cb f, tr v] at this
      simp at this
  have l2 : ∀ v, lookN g k o v (0 ||| 2 ^ f) = none := fun v => by
    cases hL : lookN g k o v (0 ||| 2 ^ f) with
    | none => rfl
    | some i =>
      obtain ⟨-, a, b, -⟩ := lookN_some hL
      rw [cb i] at a
      have a := of_decide_eq_true a
      subst a
      rw [Nat.zero_or, Nat.testBit_two_pow, decide_eq_true rfl] at b
      cases b
  rw [playedS g k 0 hg, e]
  generalize viewTo g k g.n = v
  unfold playS
  rw [if_neg o0, l1]
  simp only
  rw [if_pos (h1.ok hg om k v)]
  unfold playS
  rw [if_neg o0, l2]
  simp only
  unfold playS
  rw [if_neg h0]
  cases hL : lookN g k m (foldV (foldV v 2) 1) (0 ||| 2 ^ f) with
  | none =>
    simp only
    exact ⟨⟨1, 3, 0, false⟩, rfl, .inr rfl⟩
  | some i =>
    simp only
    rw [if_pos (h2.ok hg mm k _)]
    exact ⟨⟨2, 0, i, false⟩, rfl, .inl rfl⟩
/-- The game that the law makes. -/
def honM (g : Gm) (f : Nat) (salt : Int) : Mv := ⟨g.came, g.marked, f, false, false, salt⟩
def honO (g : Gm) (f : Nat) : Mv := ⟨2 ^ f, g.marked &&& 2 ^ f, f, false, false, 0⟩
def honG (g : Gm) (f : Nat) (salt : Int) : Gm := { g with moves := [honO g f, honO g f, honM g f salt] }
theorem honG_ok {g : Gm} (hg : g.ok) {f : Nat} (hf : f < g.n) {salt : Int} (hs : isU64 salt) : (honG g f salt).ok := by
  have a : (honO g f).ok g.n := ⟨Nat.pow_lt_pow_right (by decide) hf, fun i hi => by
    have hi : (g.marked &&& 2 ^ f).testBit i = true := hi
    rw [Nat.testBit_and, Bool.and_eq_true] at hi
    exact hi.2, hf, by unfold isU64 honO; simp⟩
  have b : (honM g f salt).ok g.n := ⟨hg.came, hg.marked, hf, hs⟩
  exact ⟨hg.b1, hg.b6, hg.n1, hg.n4, hg.bn, hg.came, hg.marked, fun m hm => by
    have hm : m ∈ [honO g f, honO g f, honM g f salt] := hm
    simp only [List.mem_cons, List.not_mem_nil, or_false] at hm
    rcases hm with rfl | rfl | rfl
    · exact a
    · exact a
    · exact b, by show 3 ≤ 8; decide⟩
theorem honG_play {g : Gm} (hg : g.ok) {f : Nat} (hf : f < g.n) (hc : g.came.testBit f = true) {salt : Int} (hs : isU64 salt) (k : Nat) :
    ∃ x : Vd, (playedN (honG g f salt) k 0).map (·.1) = [⟨2, 0, f, false⟩, ⟨1, 3, 0, false⟩, x] ∧ (x.kind = 2 ∨ x = ⟨1, 3, 0, false⟩) := by
  refine sub_last (honG g f salt) (o := honO g f) (m := honM g f salt) (honG_ok hg hf hs) rfl hf hc rfl rfl rfl ⟨fun i hi => ?_, fun i => ?_, rfl, rfl⟩ ⟨fun i hi => hi, fun i => ?_, rfl, rfl⟩ ?_ k
  · have hi : (2 ^ f).testBit i = true := hi
    rw [Nat.testBit_two_pow] at hi
    rw [← of_decide_eq_true hi]; exact hc
  · exact Nat.testBit_and ..
  · show g.marked.testBit i = (g.marked.testBit i && g.came.testBit i)
    cases h : g.marked.testBit i with
    | false => rfl
    | true => rw [hg.marked i h]; rfl
  · intro h
    have h : g.came = 0 := h
    rw [h, Nat.zero_testBit] at hc
    cases hc
theorem shr_one : ∀ s, s < 16 → ∀ i, i < 4 → bits .and .i64 ((s : Nat) / 2 ^ i : Int) 1 = if s.testBit i = true then 1 else 0 := by decide +kernel

set_option maxHeartbeats 8000000 in
set_option maxRecDepth 100000 in
theorem gameHonest_any (s : Sk) (A : Option Addr) (c : Nat) (kk salt : Int) (w : World) (hs : s.fit) (hk : isU64 kk) (hsa : isU64 salt) (hr : Rd w 6 A s.moves.length c (MvsR s.moves)) :
    Calls Try.prog 4 #[skVal s A c, .int .u64 kk, .int .u64 salt] w fun e w' => e = .returned (.bool true) ∧ Below w.heap.size w w' := by
  obtain ⟨k, rfl⟩ : ∃ k : Nat, kk = k := ⟨kk.toNat, by have := hk.1; omega⟩
  have hk64 : (k : Int) < 18446744073709551616 := hk.2
  have b0 := box_below w (.cells #[.int .u8 s.bits, .int .u8 s.packets, .int .u8 s.came, .int .u8 s.marked, .slice A s.moves.length c] 24)
  have n0 := heap_alloc_new w (.cells #[.int .u8 s.bits, .int .u8 s.packets, .int .u8 s.came, .int .u8 s.marked, .slice A s.moves.length c] 24)
  have B0 := Lib.hid b0
  have N0 := Lib.hid n0
  have HR := Lib.hid (hr.below b0)
  have GO := Lib.hid (Sk.ok hs (most := 12) (moves := 0) (by omega) (by omega))
  have HS := Lib.hid hs
  have HSA := Lib.hid hsa
  clear b0 n0 hr hs hsa hk
  unfold skVal
  go_enter Try.func4, Try.ntmps4
  go_upto_region 1 with fail
  generalize (w.alloc (.cells #[.int .u8 s.bits, .int .u8 s.packets, .int .u8 s.came, .int .u8 s.marked, .slice A s.moves.length c] 24)) = w1 at *
  have y0 := cell_of_row w1 w.heap.size 0 _ _ _ N0.out
  have y1 := cell_of_row w1 w.heap.size 1 _ _ _ N0.out
  have y2 := cell_of_row w1 w.heap.size 2 _ _ _ N0.out
  have y3 := cell_of_row w1 w.heap.size 3 _ _ _ N0.out
  have y4 := cell_of_row w1 w.heap.size 4 _ _ _ N0.out
  have K := Lib.hid (sk_game s 12 0 A c w1 HS.out (by omega) (by omega) HR.out)
  unfold skVal at K
  rw [show ((12 : Nat) : Int) = 12 from rfl, show ((0 : Nat) : Int) = 0 from rfl] at K
  go_wp2_with fail
  (with_reducible refine K.out.mono ?_)
  rintro e w2 ⟨B, d, rfl, r2, b2⟩
  have R2 := Lib.hid r2
  have B2 := Lib.hid (B0.out.trans (b2.mono B0.out.size))
  clear K r2 b2 N0 HR B0 HS y0 y1 y2 y3 y4
  generalize s.game 12 0 = g at *
  have G3 : Hid (GmB w2.heap.size g B d (w2.alloc (.cells #[.int .i64 g.b, .int .i64 g.n, .int .i64 g.came, .int .i64 g.marked, .slice B g.moves.length d] 26)) ∧ Below w.heap.size w (w2.alloc (.cells #[.int .i64 g.b, .int .i64 g.n, .int .i64 g.came, .int .i64 g.marked, .slice B g.moves.length d] 26)) ∧ w.heap.size ≤ w2.heap.size) :=
    Lib.hid ⟨⟨heap_alloc_new _ _, R2.out.below (box_below _ _)⟩, B2.out.trans ((box_below _ _).mono B2.out.size), B2.out.size⟩
  unfold gmVal
  go_upto_region 2 with fail
  generalize (w2.alloc (.cells #[.int .i64 g.b, .int .i64 g.n, .int .i64 g.came, .int .i64 g.marked, .slice B g.moves.length d] 26)) = w3 at *
  generalize w2.heap.size = q at *
  have K := Lib.hid (gamAlive w3)
  go_wp2_with fail
  (with_reducible refine K.out.mono ?_)
  rintro e w4 ⟨rfl, b4⟩
  have G4 := Lib.hid (G3.out.1.below b4)
  have B4 := Lib.hid (G3.out.2.1.trans (b4.mono G3.out.2.1.size))
  have hq := G3.out.2.2
  clear K b4 G3 B2 R2
  have n4 := GO.out.n4
  have p16 : 2 ^ g.n ≤ 16 := Nat.pow_le_pow_right (n := 2) (by decide) (j := 4) n4
  have hca : g.came < 16 := Nat.lt_of_lt_of_le GO.out.came p16
  have hma : g.marked < 16 := Nat.lt_of_le_of_lt (Nat.le_of_testBit GO.out.marked) hca
  clear p16
  have y2 : w4.cell? ⟨q, 2, none⟩ = some (.int .i64 g.came) := cell_of_row w4 q 2 _ _ _ G4.out.t
  by_cases h0 : g.came = 0
  · have h0' : (g.came : Int) = 0 := by omega
    have K := Lib.hid (gamAlive w4)
    go_wp2_with fail
    (with_reducible refine K.out.mono ?_)
    rintro e w5 ⟨rfl, b5⟩
    have B5 := Lib.hid (B4.out.trans (b5.mono B4.out.size))
    clear K b5
    go_wp2_with fail
    go_ret
    exact ⟨rfl, B5.out⟩
  · have h0' : ((g.came : Int) == 0) = false := by simpa using h0
    have HZ : Hid (¬ ∀ i, i < 4 → g.came.testBit i = false) := Lib.hid (fun h => h0 (by
      apply Nat.eq_of_testBit_eq
      intro i
      rw [Nat.zero_testBit]
      by_cases hi : i < 4
      · exact h i hi
      · exact Nat.testBit_lt_two_pow (Nat.lt_of_lt_of_le hca (Nat.pow_le_pow_right (n := 2) (by decide) (i := 4) (by omega)))))
    clear h0
    go_wp2_with fail
    go_loopw [8] (fun v8 wr => ∃ j : Nat, j < 4 ∧ v8 = .int .i64 j ∧ Hid (∀ i, i < j → g.came.testBit i = false) ∧ wr = w4) (fun v8 _ => 4 - (intOf v8).toNat)
    case atStart => exact ⟨0, by omega, rfl, Lib.hid (fun i hi => absurd hi (Nat.not_lt_zero _)), rfl⟩
    case round =>
      obtain ⟨j, hj, rfl, HJ, rfl⟩ := hrel
      have f1 : (0 : Int) ≤ j := by omega
      have f2 : (j : Int) < 64 := by omega
      have wj : IntKind.u64.wrap (j : Int) = (j : Int) := IntWalk.u64_in _ (by omega)
      have tj : ((j : Int)).toNat = j := by omega
      have hb := shr_one g.came hca j hj
      cases hc : g.came.testBit j with
      | false =>
        rw [hc, if_neg (by decide)] at hb
        have hj3 : j < 3 := Decidable.byContradiction fun hn => HZ.out (fun i hi => by
          by_cases e : i < j
          · exact HJ.out i e
          · rw [show i = j by omega]; exact hc)
        go_wp2_with fail
        go_roundw
        case rel => exact ⟨j + 1, by omega, by go_num, Lib.hid (fun i hi => by
          by_cases e : i < j
          · exact HJ.out i e
          · rw [show i = j by omega]; exact hc), by trivial⟩
        case measure => simp [intOf]; omega
      | true =>
        rw [hc, if_pos rfl] at hb
        clear HZ HJ
        have hjn : j < g.n := Decidable.byContradiction fun hn => by
          have := Nat.testBit_lt_two_pow (Nat.lt_of_lt_of_le GO.out.came (Nat.pow_le_pow_right (n := 2) (by decide) (j := j) (by omega)))
          rw [this] at hc; cases hc
        go_upto_region 7 with fail
        clear hb
        obtain ⟨p, hpe⟩ : ∃ p, p = 2 ^ j := ⟨_, rfl⟩
        have hp : (2 : Int) ^ j = (p : Int) := by rw [hpe]; simp
        have hp8 : p ≤ 8 := by rw [hpe]; exact Nat.pow_le_pow_right (n := 2) (by decide) (j := 3) (by omega)
        have HPE := Lib.hid hpe
        have ha := and_i64 g.marked hma p (by omega)
        clear hpe
        have y3 : wr.cell? ⟨q, 3, none⟩ = some (.int .i64 g.marked) := cell_of_row wr q 3 _ _ _ G4.out.t
        have hql := lt_of_block G4.out.t
        go_upto_region 9 with fail
        obtain ⟨n1, n2, bb, sz⟩ := gbox2 wr (.cells #[.int .i64 g.came, .int .i64 g.marked, .int .i64 j, .bool false, .bool false, .int .u64 salt] 34) (.cells #[.int .i64 p, .int .i64 ((g.marked &&& p : Nat) : Int), .int .i64 j, .bool false, .bool false, .int .u64 0] 34)
        have N1 := Lib.hid n1
        have N2 := Lib.hid n2
        have B5 := Lib.hid bb
        clear n1 n2 bb sz ha hp y2 y3
        generalize (wr.alloc (.cells #[.int .i64 g.came, .int .i64 g.marked, .int .i64 j, .bool false, .bool false, .int .u64 salt] 34)).alloc (.cells #[.int .i64 p, .int .i64 ((g.marked &&& p : Nat) : Int), .int .i64 j, .bool false, .bool false, .int .u64 0] 34) = wa at *
        have G5 := Lib.hid (G4.out.below B5.out)
        have B6 := Lib.hid (B4.out.trans (B5.out.mono B4.out.size))
        have hqa := lt_of_block G5.out.t
        have x0 := cell_of_row wa wr.heap.size 0 _ _ _ N1.out
        have x1 := cell_of_row wa wr.heap.size 1 _ _ _ N1.out
        have x2 := cell_of_row wa wr.heap.size 2 _ _ _ N1.out
        have x3 := cell_of_row wa wr.heap.size 3 _ _ _ N1.out
        have x4 := cell_of_row wa wr.heap.size 4 _ _ _ N1.out
        have x5 := cell_of_row wa wr.heap.size 5 _ _ _ N1.out
        have z0 := cell_of_row wa (wr.heap.size + 1) 0 _ _ _ N2.out
        have z1 := cell_of_row wa (wr.heap.size + 1) 1 _ _ _ N2.out
        have z2 := cell_of_row wa (wr.heap.size + 1) 2 _ _ _ N2.out
        have z3 := cell_of_row wa (wr.heap.size + 1) 3 _ _ _ N2.out
        have z4 := cell_of_row wa (wr.heap.size + 1) 4 _ _ _ N2.out
        have z5 := cell_of_row wa (wr.heap.size + 1) 5 _ _ _ N2.out
        have y4 : wa.cell? ⟨q, 4, none⟩ = some (.slice B g.moves.length d) := cell_of_row wa q 4 _ _ _ G5.out.t
        have fy4 := frozen_of_row wa q 4 _ _ G5.out.t
        have HM : Hid ([.int .i64 p, .int .i64 ((g.marked &&& p : Nat) : Int), .int .i64 j, .bool false, .bool false, .int .u64 0, .int .i64 p, .int .i64 ((g.marked &&& p : Nat) : Int), .int .i64 j, .bool false, .bool false, .int .u64 0, .int .i64 g.came, .int .i64 g.marked, .int .i64 j, .bool false, .bool false, .int .u64 salt] = Mvs (honG g j salt).moves) := Lib.hid (by rw [HPE.out]; rfl)
        go_upto_region 10 with fail
        have G6 : Hid (GmB q (honG g j salt) (some ⟨wa.heap.size, 0, none⟩) 3 ((wa.setCell ⟨q, 4, none⟩ (.slice (some ⟨wa.heap.size, 0, none⟩) 3 3)).alloc (.cells #[.int .i64 p, .int .i64 ((g.marked &&& p : Nat) : Int), .int .i64 j, .bool false, .bool false, .int .u64 0, .int .i64 p, .int .i64 ((g.marked &&& p : Nat) : Int), .int .i64 j, .bool false, .bool false, .int .u64 0, .int .i64 g.came, .int .i64 g.marked, .int .i64 j, .bool false, .bool false, .int .u64 salt] 34)) ∧ Below w.heap.size w ((wa.setCell ⟨q, 4, none⟩ (.slice (some ⟨wa.heap.size, 0, none⟩) 3 3)).alloc (.cells #[.int .i64 p, .int .i64 ((g.marked &&& p : Nat) : Int), .int .i64 j, .bool false, .bool false, .int .u64 0, .int .i64 p, .int .i64 ((g.marked &&& p : Nat) : Int), .int .i64 j, .bool false, .bool false, .int .u64 0, .int .i64 g.came, .int .i64 g.marked, .int .i64 j, .bool false, .bool false, .int .u64 salt] 34))) := Lib.hid (by
          have hs : (wa.setCell ⟨q, 4, none⟩ (.slice (some ⟨wa.heap.size, 0, none⟩) 3 3)).heap.size = wa.heap.size := by simp
          have b7 := B6.out.setCell (p := ⟨q, 4, none⟩) hq (.slice (some ⟨wa.heap.size, 0, none⟩) 3 3)
          refine ⟨⟨((box_below _ _).block q (by rw [hs]; exact hqa)).trans (heap_setCell_same wa q 4 _ _ _ G5.out.t), ?_⟩, b7.trans ((box_below _ _).mono b7.size)⟩
          exact Rd.lit_at _ 6 _ _ 3 _ _ hs.symm HM.out (by rw [← HM.out]; rfl) (by unfold maxLen; decide))
        generalize (wa.setCell ⟨q, 4, none⟩ (.slice (some ⟨wa.heap.size, 0, none⟩) 3 3)).alloc (.cells #[.int .i64 p, .int .i64 ((g.marked &&& p : Nat) : Int), .int .i64 j, .bool false, .bool false, .int .u64 0, .int .i64 p, .int .i64 ((g.marked &&& p : Nat) : Int), .int .i64 j, .bool false, .bool false, .int .u64 0, .int .i64 g.came, .int .i64 g.marked, .int .i64 j, .bool false, .bool false, .int .u64 salt] 34) = w6 at *
        have HP := Lib.hid (fun k => honG_play GO.out hjn hc HSA.out k)
        have GH := Lib.hid (honG_ok GO.out hjn HSA.out)
        have hl3 : Hid ((honG g j salt).moves.length = 3) := Lib.hid rfl
        generalize wa.heap.size = X at *
        clear HM G5 B6 hqa x0 x1 x2 x3 x4 x5 z0 z1 z2 z3 z4 z5 y4 fy4 N1 N2 B5 G4 B4 GO hc hjn hca hma n4 HSA
        obtain ⟨gh, hgh⟩ : ∃ gh, gh = honG g j salt := ⟨_, rfl⟩
        rw [← hgh] at G6 HP GH hl3
        clear hgh
        have K := Lib.hid (gam_drawsG gh _ _ w6 GH.out G6.out.1.r)
        have t6 := G6.out.1.t
        have KP := Lib.hid (fun W (h : GmB q gh (some ⟨X, 0, none⟩) 3 W) k hk => gam_playG gh k _ _ W GH.out hk h.r)
        unfold gmVal at K KP
        rw [hl3.out] at K t6 KP
        have dp : 0 < gh.draws := Nat.pow_pos (by decide)
        have dl := gm_draws_lt GH.out
        have y0 := cell_of_row w6 q 0 _ _ _ t6
        have y1 := cell_of_row w6 q 1 _ _ _ t6
        have y2 := cell_of_row w6 q 2 _ _ _ t6
        have y3 := cell_of_row w6 q 3 _ _ _ t6
        have y4 := cell_of_row w6 q 4 _ _ _ t6
        generalize gh.draws = D at *
        go_wp2_with fail
        (with_reducible refine K.out.mono ?_)
        rintro e w7 ⟨rfl, b7⟩
        have G7 := Lib.hid (G6.out.1.below b7)
        have B7 := Lib.hid (G6.out.2.trans (b7.mono G6.out.2.size))
        clear K b7 G6 y0 y1 y2 y3 y4 t6
        have t7 := G7.out.t
        rw [hl3.out] at t7
        have y0 := cell_of_row w7 q 0 _ _ _ t7
        have y1 := cell_of_row w7 q 1 _ _ _ t7
        have y2 := cell_of_row w7 q 2 _ _ _ t7
        have y3 := cell_of_row w7 q 3 _ _ _ t7
        have y4 := cell_of_row w7 q 4 _ _ _ t7
        have D0 : ((D : Int) == 0) = false := by rw [beq_eq_false_iff_ne]; omega
        have D1 : (1 : Int) ≤ (D : Int) := by omega
        have D2 : ¬ D = 0 := by omega
        have kd : k % D < D := Nat.mod_lt _ dp
        have ek : (k : Int) % (D : Int) = ((k % D : Nat) : Int) := by simp
        have ek2 : Int.tmod (k : Int) (D : Int) = ((k % D : Nat) : Int) := by rw [Int.tmod_eq_emod_of_nonneg (by omega)]; exact ek
        clear hk64
        obtain ⟨x, hx1, hx2⟩ := HP.out (k % D)
        have HX := Lib.hid hx2
        have hlen : (playedN gh (k % D) 0).length = 3 := by have h := congrArg List.length hx1; simpa using h
        have K : Hid (∀ W, GmB q gh (some ⟨X, 0, none⟩) 3 W → Calls Try.prog 10 #[.agg #[.int .i64 gh.b, .int .i64 gh.n, .int .i64 gh.came, .int .i64 gh.marked, .slice (some ⟨X, 0, none⟩) 3 3], .int .u64 ((k % D : Nat) : Int)] W fun e w' => ∃ VA vc, e = .returned (.tuple #[.slice VA 3 vc, .bool true]) ∧ Rd w' 4 VA 3 vc (Vds [⟨2, 0, j, false⟩, ⟨1, 3, 0, false⟩, x]) ∧ Below W.heap.size W w') := Lib.hid (fun W hW => by
          have h := KP.out W hW (k % D) (by omega)
          rw [if_pos kd, if_pos kd, decide_eq_true kd, hlen, hx1] at h
          exact h)
        clear KP HP hx1 hx2 hlen t7
        generalize k % D = kk at *
        go_upto_region 13 with fail
        have gB := Lib.hid (fun (W : World) (b : Below w7.heap.size w7 W) => (⟨(b.cell (block_lt_of_cell y0)).trans y0, (b.cell (block_lt_of_cell y1)).trans y1, (b.cell (block_lt_of_cell y2)).trans y2, (b.cell (block_lt_of_cell y3)).trans y3, (b.cell (block_lt_of_cell y4)).trans y4⟩ : W.cell? ⟨q, 0, none⟩ = some (.int .i64 gh.b) ∧ W.cell? ⟨q, 1, none⟩ = some (.int .i64 gh.n) ∧ W.cell? ⟨q, 2, none⟩ = some (.int .i64 gh.came) ∧ W.cell? ⟨q, 3, none⟩ = some (.int .i64 gh.marked) ∧ W.cell? ⟨q, 4, none⟩ = some (.slice (some ⟨X, 0, none⟩) 3 3)))
        have K7 := Lib.hid (K.out w7.drew (G7.out.below (Below.refl _ _).drew))
        go_cut [12, 13] (fun s12 s13 wx => ∃ VA vc, s12 = .slice VA 3 vc ∧ s13 = .bool true ∧ Hid (Rd wx 4 VA 3 vc (Vds [⟨2, 0, j, false⟩, ⟨1, 3, 0, false⟩, x])) ∧ Hid (Below w7.heap.size w7 wx))
        case first =>
          go_region_held3 (fun W => W.cell? ⟨q, 0, none⟩ = some (.int .i64 gh.b) ∧ W.cell? ⟨q, 1, none⟩ = some (.int .i64 gh.n) ∧ W.cell? ⟨q, 2, none⟩ = some (.int .i64 gh.came) ∧ W.cell? ⟨q, 3, none⟩ = some (.int .i64 gh.marked) ∧ W.cell? ⟨q, 4, none⟩ = some (.slice (some ⟨X, 0, none⟩) 3 3))
            (first | exact gB.out _ ((Below.refl _ _).drew.trans b8) | exact gB.out _ (Below.refl _ _).drew | exact gB.out _ (Below.refl _ _))
            (first | (go_at_call 10; (with_reducible refine Calls.mono K7.out ?_); rintro e w8 ⟨VA, vc, rfl, rv, b8⟩))
          all_goals
            go_wp2_with fail
            go_meet
            exact ⟨VA, vc, rfl, rfl, Lib.hid rv, Lib.hid ((Below.refl _ _).drew.trans b8)⟩
        case rest =>
        obtain ⟨VA, vc, rfl, rfl, RV, B8⟩ := hcut
        have vcap := RV.out.cap
        have vmax := RV.out.max
        unfold maxLen at vmax
        obtain ⟨vb, vo, rfl, a0, a1, a2, a3⟩ := RV.out.vd (i := 0) (by simp)
        obtain ⟨vb', vo', e1, c0, c1, c2, c3⟩ := RV.out.vd (i := 1) (by simp)
        obtain ⟨vb'', vo'', e2, d0, d1, d2, d3⟩ := RV.out.vd (i := 2) (by simp)
        injection e1 with e1
        injection e1 with e1 e1'
        injection e2 with e2
        injection e2 with e2 e2'
        subst e1 e1' e2 e2'
        simp only [Nat.zero_mul, Nat.add_zero, Nat.one_mul, List.getElem_cons_zero, List.getElem_cons_succ] at a0 a1 a2 a3 c0 c1 c2 c3 d0 d1 d2 d3
        clear K K7 y0 y1 y2 y3 y4 RV G7
        have BE := Lib.hid (B7.out.trans (B8.out.mono B7.out.size))
        obtain ⟨xk, xw, xp, xc⟩ := x
        simp only at d0 d1 d2 d3 HX
        rcases HX.out with h | h
        · have h : xk = 2 := h
          subst h
          go_wp2_with fail
          go_ret
          exact ⟨rfl, BE.out⟩
        · injection h with h1 h2 h3 h4
          subst h1 h2 h3 h4
          go_wp2_with fail
          go_ret
          exact ⟨rfl, BE.out⟩

end Go.Proofs.Ytpfmhkkglaghgaa
