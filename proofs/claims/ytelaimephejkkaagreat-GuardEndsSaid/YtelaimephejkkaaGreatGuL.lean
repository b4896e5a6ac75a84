/-
  A frame that comes: Shot.Frame. · The law's example (alive). · Frames that come one behind the other: where a law's loop stands.
-/
import Derived.Test.YtelaimephejkkaaGreatGuB
import Derived.Test.YtelaimephejkkaaGreatOct7
import Derived.Test.YtelaimephejkkaaGreatAskR
import Derived.Test.YtelaimephejkkaaGreatDo
import Derived.Deep.DeepCutAuto
import Derived.Deep.RegionHeld3
namespace Go.Proofs.YtelaimephejkkaaGreat
set_option linter.unusedSimpArgs false
set_option linter.unusedVariables false
set_option linter.unnecessarySimpa false
open Go.RowKit
attribute [local go_sem ↓] run_min_int run_max_int

structure Sh where
  kind : Int
  A : Option Addr
  c : Nat
  b : List Int
  k : W4
  x : Int
  right : Bool
  wait : Int
def Sh.vals (s : Sh) : List Value := [.int .i64 s.kind, .slice s.A s.b.length s.c, .int .u16 s.k.a, .int .u16 s.k.b, .int .u16 s.k.c, .int .u16 s.k.d, .int .u64 s.x, .bool s.right, .int .u16 s.wait]
def Sh.val (s : Sh) : Value := .agg #[.int .i64 s.kind, .slice s.A s.b.length s.c, .int .u16 s.k.a, .int .u16 s.k.b, .int .u16 s.k.c, .int .u16 s.k.d, .int .u64 s.x, .bool s.right, .int .u16 s.wait]
structure Sh.ok (w : World) (s : Sh) : Prop where
  r : Rd w 1 s.A s.b.length s.c (U8 s.b)
  by_ : ∀ x ∈ s.b, 0 ≤ x ∧ x ≤ 255
  k : s.k.ok
  x : isU64 s.x
  w : 0 ≤ s.wait ∧ s.wait ≤ 65535
theorem Sh.ok.below {w w' : World} {s : Sh} (h : s.ok w) (b : Below w.heap.size w w') : s.ok w' := ⟨h.r.below b, h.by_, h.k, h.x, h.w⟩
theorem and7 (b : Int) (h : isU64 b) : bits .and .u64 b 7 = b % 8 := by
  obtain ⟨h0, h1⟩ := h
  rw [u64_and _ _ h0 h1 (by omega) (by omega)]
  obtain ⟨n, rfl⟩ : ∃ n : Nat, b = n := ⟨b.toNat, by omega⟩
  have := and_nat n 3
  simp only [Int.toNat_natCast]
  have e : (7 : Int).toNat = 2 ^ 3 - 1 := rfl
  rw [e, this]
  omega
theorem rowGo_u8 : ∀ (l : List Sp) (low : Int), 0 ≤ low → Gd l → (∀ s ∈ l, low ≤ s.1) → ∀ x ∈ rowGo low l, 0 ≤ x ∧ x ≤ 255
  | [], _, _, _, _ => fun x hx => by simp [rowGo] at hx
  | s :: l, low, h0, hg, hl => fun x hx => by
    have hs := hg.1 s (List.mem_cons_self ..)
    have h1 := hs.1
    have h2 : s.2 ≤ 4611686018427387903 := hs.2
    have h3 := hl s (List.mem_cons_self ..)
    simp only [rowGo, List.mem_append] at hx
    rcases hx with hx | hx | hx
    · exact putN_u8 _ (by omega) (by omega) x hx
    · exact putN_u8 _ (by omega) (by omega) x hx
    · exact rowGo_u8 l (s.2 + 2) (by omega) hg.tail (fun y hy => by have := (List.pairwise_cons.1 hg.2).1 y hy; omega) x hx
theorem rowBytes_u8 {l : List Sp} (hg : Gd l) (h0 : ∀ s ∈ l, 0 ≤ s.1) (hl : l.length ≤ 32) : ∀ x ∈ rowBytes l, 0 ≤ x ∧ x ≤ 255 := by
  intro x hx
  rcases List.mem_cons.1 hx with rfl | hx
  · omega
  · exact rowGo_u8 l 0 (Int.le_refl _) hg h0 x hx
theorem putAck_u8 {a : AckD} (h1 : Gd a.sp) (h2 : Gd a.mm) (p1 : ∀ s ∈ a.sp, 0 ≤ s.1) (p2 : ∀ s ∈ a.mm, 0 ≤ s.1) (l2 : a.sp.length ≤ 32) (l3 : a.mm.length ≤ 32) : (∀ x ∈ putAckP a, 0 ≤ x ∧ x ≤ 255) ∧ (putAckP a).length ≤ 2000 := by
  refine ⟨fun x hx => ?_, ?_⟩
  · simp only [putAckP, List.mem_cons, List.mem_append, eightN] at hx
    rcases hx with rfl | hx | hx | hx | hx | hx
    · omega
    · exact rowBytes_u8 h1 p1 l2 x hx
    · exact rowBytes_u8 h2 p2 l3 x hx
    · exact bytesN_u8 _ _ x hx
    · exact bytesN_u8 _ _ x hx
    · rcases hx with rfl | hx
      · split <;> omega
      · cases hx
  · have e1 := rowBytes_le h1 p1 l2
    have e2 := rowBytes_le h2 p2 l3
    simp [putAckP, eightN]
    omega
/-- What a frame is. -/
def FrameVal (w w' : World) (s : Sh) (e : Ending) : Prop := ∃ (A : Option Addr) (c : Nat) (l : List Int), e = .returned (.slice A l.length c) ∧ Rd w' 1 A l.length c (U8 l) ∧ (∀ x ∈ l, 0 ≤ x ∧ x ≤ 255) ∧ l.length ≤ 70368744177664 ∧ Below w.heap.size w w' ∧
  (∀ b off, A = some ⟨b, off, none⟩ → 0 < l.length → (∃ off', s.A = some ⟨b, off', none⟩ ∧ 0 < s.b.length) ∨ w.heap.size ≤ b)

theorem sumU (s : LS) (cl mk : List Sp) (g : s.Good) : isU64 (s.sum cl mk).1 := by
  unfold LS.sum
  split
  · exact LS.sumX_u64 _ _ g.keptOk
  · exact ⟨by decide, by decide⟩
theorem Asked.parts {w : World} {a : Ak} (h : Asked a) (r : AkR w a) : Gd a.sp ∧ Gd a.mm ∧ (∀ s ∈ a.sp, 0 ≤ s.1) ∧ (∀ s ∈ a.mm, 0 ≤ s.1) ∧ 1 ≤ a.sp.length ∧ a.sp.length ≤ 32 ∧ a.mm.length ≤ 32 ∧ insideB a.mm a.sp = true := by
  have h2 := h.two
  refine ⟨h.good.gd, by rw [h.mm]; exact Gd.nil, fun s hs => (r.us s hs).1.1, fun s hs => (r.um s hs).1.1, h.one, by omega, by rw [h.mm]; simp, by rw [h.mm]; rfl⟩

set_option maxHeartbeats 16000000 in
set_option maxRecDepth 100000 in
theorem frame_any (w : World) (F : Nat → Prop) (p r : Nat) (s : LS) (sh : Sh) (h : TwoR w F p r s) (hs : s.all.length ≤ 80) (hsh : sh.ok w) :
    Calls Tryz.prog 14 #[sh.val, .agg #[.pointer (some ⟨p, 0, none⟩), .pointer (some ⟨r, 0, none⟩)]] w fun e w' => FrameVal w w' sh e := by
  obtain ⟨kind, A, c, b, ⟨ka, kb, kc, kd⟩, x, right, wait⟩ := sh
  unfold Sh.val
  simp only
  obtain ⟨n1, n2, bb, s2⟩ := boxes2 w (.cells #[.int .i64 kind, .slice A b.length c, .int .u16 ka, .int .u16 kb, .int .u16 kc, .int .u16 kd, .int .u64 x, .bool right, .int .u16 wait] 42) (.cells #[.pointer (some ⟨p, 0, none⟩), .pointer (some ⟨r, 0, none⟩)] 28)
  have N1 := Lib.hid n1
  have N2 := Lib.hid n2
  have BB := Lib.hid bb
  have T1 := Lib.hid (h.below bb)
  have TW0 : Hid (TwoR w (fun k => F k ∧ k < w.heap.size) p r s) := Lib.hid (h.sub fun k hk hf => ⟨hf, hk⟩)
  have S1 := Lib.hid (hsh.below bb)
  have S0 := Lib.hid hsh
  clear h hsh n1 n2 bb
  by_cases hk : Int.tmod kind 5 = 0
  · obtain ⟨iB, hiB, bz0, bz1, bz2⟩ := info_parts infoByte
    obtain ⟨m, hm⟩ : ∃ m, m = min b.length 300 := ⟨_, rfl⟩
    have hml : m ≤ b.length := by omega
    have hmin : min (b.length : Int) 300 = (m : Int) := by omega
    have hcp := S1.out.r.cap
    simp only at hcp
    have hcut := take_run (P := Tryz.prog) (t := 38) (size := 1) Tryz.underlying38 hiB bz1 A b.length c m (by omega)
    have HM := Lib.hid hm
    clear hm
    go_enter Tryz.func14, Tryz.ntmps14
    go_upto_region 1 with fail
    generalize ((w.alloc (.cells #[.int .i64 kind, .slice A b.length c, .int .u16 ka, .int .u16 kb, .int .u16 kc, .int .u16 kd, .int .u64 x, .bool right, .int .u16 wait] 42)).alloc (.cells #[.pointer (some ⟨p, 0, none⟩), .pointer (some ⟨r, 0, none⟩)] 28)) = w1 at *
    have n1 := N1.out
    have y0 := cell_of_row w1 w.heap.size 0 _ _ _ n1
    have fy0 := frozen_of_row w1 w.heap.size 0 _ _ n1
    have y1 := cell_of_row w1 w.heap.size 1 _ _ _ n1
    have fy1 := frozen_of_row w1 w.heap.size 1 _ _ n1
    have y2 := cell_of_row w1 w.heap.size 2 _ _ _ n1
    have fy2 := frozen_of_row w1 w.heap.size 2 _ _ n1
    have y3 := cell_of_row w1 w.heap.size 3 _ _ _ n1
    have fy3 := frozen_of_row w1 w.heap.size 3 _ _ n1
    have y4 := cell_of_row w1 w.heap.size 4 _ _ _ n1
    have fy4 := frozen_of_row w1 w.heap.size 4 _ _ n1
    have y5 := cell_of_row w1 w.heap.size 5 _ _ _ n1
    have fy5 := frozen_of_row w1 w.heap.size 5 _ _ n1
    have y6 := cell_of_row w1 w.heap.size 6 _ _ _ n1
    have fy6 := frozen_of_row w1 w.heap.size 6 _ _ n1
    have y7 := cell_of_row w1 w.heap.size 7 _ _ _ n1
    have fy7 := frozen_of_row w1 w.heap.size 7 _ _ n1
    have y8 := cell_of_row w1 w.heap.size 8 _ _ _ n1
    have fy8 := frozen_of_row w1 w.heap.size 8 _ _ n1
    clear n1
    go_wp2
    go_ret
    have hlen : (b.take m).length = m := by rw [List.length_take]; omega
    refine ⟨A, c, b.take m, ?_, ?_, fun y hy => S0.out.by_ y (List.mem_of_mem_take hy), by rw [hlen]; have := HM.out; omega, BB.out, fun bk off e hn => .inl ⟨off, e, by rw [hlen] at hn; show 0 < b.length; omega⟩⟩
    · rw [hlen]; rfl
    · rw [hlen]
      have := S1.out.r.take hml
      rw [Nat.mul_one] at this
      simpa [U8] using this
  · have hkd : (Int.tmod kind 5 == 0) = false := beq_eq_false_iff_ne.2 hk
    have hkd2 : decide (Int.tmod kind 5 = 0) = false := decide_eq_false hk
    have x0 := S0.out.x.1
    have x1 := S0.out.x.2
    simp only at x0 x1
    have h7 := and7 x ⟨x0, x1⟩
    have KA := Lib.hid (ask_any _ F p r s ⟨ka, kb, kc, kd⟩ (x % 8) T1.out hs S0.out.k ⟨by omega, by omega⟩)
    unfold W4.val W4.cells at KA
    simp only at KA
    go_enter Tryz.func14, Tryz.ntmps14
    go_upto_region 3 with fail
    generalize ((w.alloc (.cells #[.int .i64 kind, .slice A b.length c, .int .u16 ka, .int .u16 kb, .int .u16 kc, .int .u16 kd, .int .u64 x, .bool right, .int .u16 wait] 42)).alloc (.cells #[.pointer (some ⟨p, 0, none⟩), .pointer (some ⟨r, 0, none⟩)] 28)) = w1 at *
    have n1 := N1.out
    have n2 := N2.out
    have y0 := cell_of_row w1 w.heap.size 0 _ _ _ n1
    have fy0 := frozen_of_row w1 w.heap.size 0 _ _ n1
    have y1 := cell_of_row w1 w.heap.size 1 _ _ _ n1
    have fy1 := frozen_of_row w1 w.heap.size 1 _ _ n1
    have y2 := cell_of_row w1 w.heap.size 2 _ _ _ n1
    have fy2 := frozen_of_row w1 w.heap.size 2 _ _ n1
    have y3 := cell_of_row w1 w.heap.size 3 _ _ _ n1
    have fy3 := frozen_of_row w1 w.heap.size 3 _ _ n1
    have y4 := cell_of_row w1 w.heap.size 4 _ _ _ n1
    have fy4 := frozen_of_row w1 w.heap.size 4 _ _ n1
    have y5 := cell_of_row w1 w.heap.size 5 _ _ _ n1
    have fy5 := frozen_of_row w1 w.heap.size 5 _ _ n1
    have y6 := cell_of_row w1 w.heap.size 6 _ _ _ n1
    have fy6 := frozen_of_row w1 w.heap.size 6 _ _ n1
    have y7 := cell_of_row w1 w.heap.size 7 _ _ _ n1
    have fy7 := frozen_of_row w1 w.heap.size 7 _ _ n1
    have y8 := cell_of_row w1 w.heap.size 8 _ _ _ n1
    have fy8 := frozen_of_row w1 w.heap.size 8 _ _ n1
    have u0 := cell_of_row w1 (w.heap.size + 1) 0 _ _ _ n2
    have fu0 := frozen_of_row w1 (w.heap.size + 1) 0 _ _ n2
    have u1 := cell_of_row w1 (w.heap.size + 1) 1 _ _ _ n2
    have fu1 := frozen_of_row w1 (w.heap.size + 1) 1 _ _ n2
    clear n1 n2
    go_wp2_with fail
    refine KA.out.mono ?_
    rintro e w2 ⟨a, rfl, hA, hAs, hAb, hb2⟩
    obtain ⟨g1, g2, p1, p2, l1, l2, l3, l4⟩ := hAs.parts hA
    obtain ⟨A2, c2, B2, dd2, sp, mm, tr, xo, od⟩ := a
    simp only at hAb g1 g2 p1 p2 l1 l2 l3 l4
    have G1 := Lib.hid g1
    have G2 := Lib.hid g2
    have P1 := Lib.hid p1
    have P2 := Lib.hid p2
    have e3 := box_below w2 (.cells #[.slice A2 sp.length c2, .slice B2 mm.length dd2, .int .u64 tr, .int .u64 xo, .bool od] 56)
    have T3 := Lib.hid (heap_alloc_new w2 (.cells #[.slice A2 sp.length c2, .slice B2 mm.length dd2, .int .u64 tr, .int .u64 xo, .bool od] 56))
    have A3 := Lib.hid (hA.below e3)
    have NA := Lib.hid (And.intro (fun bk off (e : A2 = some ⟨bk, off, none⟩) (hn : 0 < sp.length) => hA.rs.lt (by omega) hn bk off e) (fun bk off (e : B2 = some ⟨bk, off, none⟩) (hn : 0 < mm.length) => hA.rm.lt (by omega) hn bk off e))
    have M1 := Lib.hid ((e3.block _ (Nat.lt_of_lt_of_le (lt_of_block N1.out) hb2.size)).trans ((hb2.block _ (lt_of_block N1.out)).trans N1.out))
    have M2 := Lib.hid ((e3.block _ (Nat.lt_of_lt_of_le (lt_of_block N2.out) hb2.size)).trans ((hb2.block _ (lt_of_block N2.out)).trans N2.out))
    have TW := Lib.hid ((T1.out.below hb2).below e3)
    have B3 := Lib.hid ((BB.out.trans (hb2.mono (by omega))).trans (e3.mono (by have := hb2.size; omega)))
    have hs2 := hb2.size
    clear KA hA hAs hAb g1 g2 p1 p2 hb2 e3 N1 N2 T1 BB y0 y1 y2 y3 y4 y5 y6 y7 y8 fy0 fy1 fy2 fy3 fy4 fy5 fy6 fy7 fy8 u0 u1 fu0 fu1
    unfold Ak.val
    simp only [Ak.cells]
    go_upto_region 4 with fail
    generalize (w2.alloc (.cells #[.slice A2 sp.length c2, .slice B2 mm.length dd2, .int .u64 tr, .int .u64 xo, .bool od] 56)) = w3 at *
    generalize w2.heap.size = h5 at *
    have nn : w.heap.size ≠ h5 ∧ w.heap.size + 1 ≠ h5 := by omega
    have m6 := mixF_cell (F := fun j => j = h5) (v := .int .u64 x) (cell_of_row w3 w.heap.size 6 _ _ _ M1.out) nn.1
    have K4 : Hid (∀ wx, Chg (fun j => j = h5) w3 wx → AkR wx ⟨A2, c2, B2, dd2, sp, mm, tr, xo, od⟩ ∧ Below w.heap.size w wx ∧ wx.heap[w.heap.size]? = some (.cells #[.int .i64 kind, .slice A b.length c, .int .u16 ka, .int .u16 kb, .int .u16 kc, .int .u16 kd, .int .u64 x, .bool right, .int .u16 wait] 42 (0, 0)) ∧ wx.heap[w.heap.size + 1]? = some (.cells #[.pointer (some ⟨p, 0, none⟩), .pointer (some ⟨r, 0, none⟩)] 28 (0, 0)) ∧ (∀ k, F k → k < w.heap.size → True)) := Lib.hid (fun wx hc => ⟨⟨A3.out.rs.chg hc (fun bk off e hn he => by have := NA.out.1 bk off e hn; omega), A3.out.rm.chg hc (fun bk off e hn he => by have := NA.out.2 bk off e hn; omega), A3.out.us, A3.out.um, A3.out.ut, A3.out.ux⟩, B3.out.trans (hc.below B3.out.size (fun k hk e => by omega)), hc.blk M1.out (by omega), hc.blk M2.out (by omega), fun _ _ _ => trivial⟩)
    clear nn
    refine wp_region_chg (fun j => j = h5) (by kernel_rfl) (by kernel_rfl) ?_
    repeat (refine wpMix_seg 1 _ _ rfl ?_; simp only [List.take_succ_cons, List.take_zero, List.drop_succ_cons, List.drop_zero]; go_big_quiet_step (fail); refine wpQuiet_nil ?_)
    generalize hwd : w3.drew = wd at *
    have HQ : Hid (Chg (fun j => j = h5) w3 wd) := Lib.hid (by rw [← hwd]; exact (Chg.refl _ _).drew)
    have t3 : wd.heap[h5]? = some (.cells #[.slice A2 sp.length c2, .slice B2 mm.length dd2, .int .u64 tr, .int .u64 xo, .bool od] 56 (0, 0)) := by rw [← hwd]; exact T3.out
    clear hwd
    generalize hod : (bits .and .u64 x 1 == 1) = od2 at *
    have f1 := heap_setCell_same wd h5 3 _ _ (.int .u64 x) t3
    have f2 := heap_setCell_same _ h5 4 _ _ (.bool od2) f1
    have C1 := Lib.hid (HQ.out.setCell (p := ⟨h5, 3, none⟩) (.inl rfl) (.int .u64 x))
    have C2 := Lib.hid (C1.out.setCell (p := ⟨h5, 4, none⟩) (.inl rfl) (.bool od2))
    have F2 := Lib.hid f2
    have z0 := cell_of_row wd h5 0 _ _ _ t3
    have fz0 := frozen_of_row wd h5 0 _ _ t3
    have z1 := cell_of_row wd h5 1 _ _ _ t3
    have fz1 := frozen_of_row wd h5 1 _ _ t3
    have z2 := cell_of_row wd h5 2 _ _ _ t3
    have fz2 := frozen_of_row wd h5 2 _ _ t3
    have z3 := cell_of_row wd h5 3 _ _ _ t3
    have fz3 := frozen_of_row wd h5 3 _ _ t3
    have z4 := cell_of_row wd h5 4 _ _ _ t3
    have fz4 := frozen_of_row wd h5 4 _ _ t3
    clear t3 f1 f2
    refine wpMix_bar rfl (by rfl) ?_
    go_wp2
    refine ⟨chg_mixF C1.out, ?_⟩
    repeat (refine wpMix_seg 1 _ _ rfl ?_; simp only [List.take_succ_cons, List.take_zero, List.drop_succ_cons, List.drop_zero]; go_big_quiet_step (fail); refine wpQuiet_nil ?_)
    refine wpMix_bar rfl (by rfl) ?_
    go_wp2
    refine ⟨chg_mixF C2.out, ?_⟩
    repeat (refine wpMix_seg 1 _ _ rfl ?_; simp only [List.take_succ_cons, List.take_zero, List.drop_succ_cons, List.drop_zero]; go_big_quiet_step (fail); refine wpQuiet_nil ?_)
    refine wpMix_nil ?_
    clear m6 z0 z1 z2 z3 z4 fz0 fz1 fz2 fz3 fz4
    obtain ⟨ha4, hb4, hm4, hn4, -⟩ := K4.out _ C2.out
    have f2 := F2.out
    simp at f2
    have AA : Hid (AkR ((wd.setCell ⟨h5, 3, none⟩ (.int .u64 x)).setCell ⟨h5, 4, none⟩ (.bool od2)) ⟨A2, c2, B2, dd2, sp, mm, tr, x, od2⟩) := Lib.hid ⟨ha4.rs, ha4.rm, ha4.us, ha4.um, ha4.ut, ⟨x0, x1⟩⟩
    have TT : Hid (((wd.setCell ⟨h5, 3, none⟩ (.int .u64 x)).setCell ⟨h5, 4, none⟩ (.bool od2)).heap[h5]? = some (.cells #[.slice A2 sp.length c2, .slice B2 mm.length dd2, .int .u64 tr, .int .u64 x, .bool od2] 56 (0, 0))) := Lib.hid f2
    have B4 := Lib.hid hb4
    have M4 := Lib.hid hm4
    have N4 := Lib.hid hn4
    have TW4 : Hid (TwoR ((wd.setCell ⟨h5, 3, none⟩ (.int .u64 x)).setCell ⟨h5, 4, none⟩ (.bool od2)) (fun k => F k ∧ k < w.heap.size) p r s) := Lib.hid (((TW0.out.below B3.out).chg C2.out (fun k _ hf e => by have : k = h5 := e; have := hf.2; omega)))
    have LE : Hid (w.heap.size + 2 ≤ h5) := Lib.hid (by omega)
    have NA4 := Lib.hid NA.out
    clear ha4 hb4 hm4 hn4 f2 C1 C2 F2 A3 B3 M1 M2 T3 K4 TW
    generalize ((wd.setCell ⟨h5, 3, none⟩ (.int .u64 x)).setCell ⟨h5, 4, none⟩ (.bool od2)) = w4 at *
    have y7 := cell_of_row w4 w.heap.size 7 _ _ _ M4.out
    cases right with
    | false =>
      go_upto_region 9 with fail
      have KP := Lib.hid (ref_putAck w4 ⟨A2, c2, B2, dd2, sp, mm, tr, x, od2⟩ AA.out G1.out G2.out P1.out P2.out l2 l3)
      have PU := Lib.hid (putAck_u8 (a := ⟨sp, mm, tr, x, od2⟩) G1.out G2.out P1.out P2.out l2 l3)
      unfold Ak.val Ak.cells at KP
      simp only at KP
      have tz := TT.out
      have z0 := cell_of_row w4 h5 0 _ _ _ tz
      have fz0 := frozen_of_row w4 h5 0 _ _ tz
      have z1 := cell_of_row w4 h5 1 _ _ _ tz
      have fz1 := frozen_of_row w4 h5 1 _ _ tz
      have z2 := cell_of_row w4 h5 2 _ _ _ tz
      have fz2 := frozen_of_row w4 h5 2 _ _ tz
      have z3 := cell_of_row w4 h5 3 _ _ _ tz
      have fz3 := frozen_of_row w4 h5 3 _ _ tz
      have z4 := cell_of_row w4 h5 4 _ _ _ tz
      have fz4 := frozen_of_row w4 h5 4 _ _ tz
      clear tz
      go_wp2_with fail
      refine KP.out.mono ?_
      rintro e wz ⟨A9, c9, rfl, hR9, hb9, hA9⟩
      go_wp2
      go_ret
      exact ⟨A9, c9, _, rfl, hR9, PU.out.1, Nat.le_trans PU.out.2 (by omega), B4.out.trans (hb9.mono B4.out.size), fun bk off e hn => .inr (Nat.le_trans B4.out.size (hA9 bk off e))⟩
    | true =>
      obtain ⟨H', hPr, hsub⟩ := TW4.out
      have KS := Lib.hid (sumR_any w4 H' r s A2 B2 c2 dd2 sp mm hPr AA.out.rs AA.out.rm AA.out.us AA.out.um)
      have SU := Lib.hid (sumU s sp mm hPr.good)
      clear hPr hsub
      generalize s.sum sp mm = sm at *
      obtain ⟨X, O, ok⟩ := sm
      simp only at KS SU
      have u1 := cell_of_row w4 (w.heap.size + 1) 1 _ _ _ N4.out
      have t4 := TT.out
      have z0 := cell_of_row w4 h5 0 _ _ _ t4
      have fz0 := frozen_of_row w4 h5 0 _ _ t4
      have z1 := cell_of_row w4 h5 1 _ _ _ t4
      have fz1 := frozen_of_row w4 h5 1 _ _ t4
      have z2 := cell_of_row w4 h5 2 _ _ _ t4
      have fz2 := frozen_of_row w4 h5 2 _ _ t4
      have z3 := cell_of_row w4 h5 3 _ _ _ t4
      have fz3 := frozen_of_row w4 h5 3 _ _ t4
      have z4 := cell_of_row w4 h5 4 _ _ _ t4
      have fz4 := frozen_of_row w4 h5 4 _ _ t4
      go_wp2_with fail
      refine KS.out.mono ?_
      rintro e w5 ⟨rfl, hb5⟩
      have AA5 := Lib.hid (AA.out.below hb5)
      have TT5 := Lib.hid ((hb5.block _ (lt_of_block TT.out)).trans TT.out)
      have B5 := Lib.hid (B4.out.trans (hb5.mono B4.out.size))
      clear KS y7 u1 z0 z1 z2 z3 z4 fz0 fz1 fz2 fz3 fz4 hb5 t4
      cases ok with
      | false =>
        go_upto_region 9 with fail
        have KP := Lib.hid (ref_putAck w5 ⟨A2, c2, B2, dd2, sp, mm, tr, x, od2⟩ AA5.out G1.out G2.out P1.out P2.out l2 l3)
        have PU := Lib.hid (putAck_u8 (a := ⟨sp, mm, tr, x, od2⟩) G1.out G2.out P1.out P2.out l2 l3)
        unfold Ak.val Ak.cells at KP
        simp only at KP
        have tz := TT5.out
        have z0 := cell_of_row w5 h5 0 _ _ _ tz
        have fz0 := frozen_of_row w5 h5 0 _ _ tz
        have z1 := cell_of_row w5 h5 1 _ _ _ tz
        have fz1 := frozen_of_row w5 h5 1 _ _ tz
        have z2 := cell_of_row w5 h5 2 _ _ _ tz
        have fz2 := frozen_of_row w5 h5 2 _ _ tz
        have z3 := cell_of_row w5 h5 3 _ _ _ tz
        have fz3 := frozen_of_row w5 h5 3 _ _ tz
        have z4 := cell_of_row w5 h5 4 _ _ _ tz
        have fz4 := frozen_of_row w5 h5 4 _ _ tz
        clear tz
        go_wp2_with fail
        refine KP.out.mono ?_
        rintro e wz ⟨A9, c9, rfl, hR9, hb9, hA9⟩
        go_wp2
        go_ret
        exact ⟨A9, c9, _, rfl, hR9, PU.out.1, Nat.le_trans PU.out.2 (by omega), B5.out.trans (hb9.mono B5.out.size), fun bk off e hn => .inr (Nat.le_trans B5.out.size (hA9 bk off e))⟩
      | true =>
        have t5 := TT5.out
        have f1 := heap_setCell_same w5 h5 3 _ _ (.int .u64 X) t5
        have f2 := heap_setCell_same _ h5 4 _ _ (.bool O) f1
        have c2' : Chg (fun j => j = h5) w5 ((w5.setCell ⟨h5, 3, none⟩ (.int .u64 X)).setCell ⟨h5, 4, none⟩ (.bool O)) := ((Chg.refl (fun j => j = h5) w5).setCell (p := ⟨h5, 3, none⟩) (.inl rfl) _).setCell (p := ⟨h5, 4, none⟩) (.inl rfl) _
        simp at f2
        have AA6 : Hid (AkR ((w5.setCell ⟨h5, 3, none⟩ (.int .u64 X)).setCell ⟨h5, 4, none⟩ (.bool O)) ⟨A2, c2, B2, dd2, sp, mm, tr, X, O⟩) := Lib.hid ⟨AA5.out.rs.chg c2' (fun bk off e hn he => by have := NA4.out.1 bk off e hn; omega), AA5.out.rm.chg c2' (fun bk off e hn he => by have := NA4.out.2 bk off e hn; omega), AA5.out.us, AA5.out.um, AA5.out.ut, SU.out⟩
        have TT6 : Hid (((w5.setCell ⟨h5, 3, none⟩ (.int .u64 X)).setCell ⟨h5, 4, none⟩ (.bool O)).heap[h5]? = some (.cells #[.slice A2 sp.length c2, .slice B2 mm.length dd2, .int .u64 tr, .int .u64 X, .bool O] 56 (0, 0))) := Lib.hid f2
        have B6 := Lib.hid (B5.out.trans (c2'.below B5.out.size (fun k hk e => by have := LE.out; omega)))
        have z0 := cell_of_row w5 h5 0 _ _ _ t5
        have fz0 := frozen_of_row w5 h5 0 _ _ t5
        have z1 := cell_of_row w5 h5 1 _ _ _ t5
        have fz1 := frozen_of_row w5 h5 1 _ _ t5
        have z2 := cell_of_row w5 h5 2 _ _ _ t5
        have fz2 := frozen_of_row w5 h5 2 _ _ t5
        have z3 := cell_of_row w5 h5 3 _ _ _ t5
        have fz3 := frozen_of_row w5 h5 3 _ _ t5
        have z4 := cell_of_row w5 h5 4 _ _ _ t5
        have fz4 := frozen_of_row w5 h5 4 _ _ t5
        clear f1 f2 c2' t5
        go_upto_region 9 with fail
        clear z0 z1 z2 z3 z4 fz0 fz1 fz2 fz3 fz4
        generalize ((w5.setCell ⟨h5, 3, none⟩ (.int .u64 X)).setCell ⟨h5, 4, none⟩ (.bool O)) = w6 at *
        have KP := Lib.hid (ref_putAck w6 ⟨A2, c2, B2, dd2, sp, mm, tr, X, O⟩ AA6.out G1.out G2.out P1.out P2.out l2 l3)
        have PU := Lib.hid (putAck_u8 (a := ⟨sp, mm, tr, X, O⟩) G1.out G2.out P1.out P2.out l2 l3)
        unfold Ak.val Ak.cells at KP
        simp only at KP
        have tz := TT6.out
        have z0 := cell_of_row w6 h5 0 _ _ _ tz
        have fz0 := frozen_of_row w6 h5 0 _ _ tz
        have z1 := cell_of_row w6 h5 1 _ _ _ tz
        have fz1 := frozen_of_row w6 h5 1 _ _ tz
        have z2 := cell_of_row w6 h5 2 _ _ _ tz
        have fz2 := frozen_of_row w6 h5 2 _ _ tz
        have z3 := cell_of_row w6 h5 3 _ _ _ tz
        have fz3 := frozen_of_row w6 h5 3 _ _ tz
        have z4 := cell_of_row w6 h5 4 _ _ _ tz
        have fz4 := frozen_of_row w6 h5 4 _ _ tz
        clear tz
        go_wp2_with fail
        refine KP.out.mono ?_
        rintro e wz ⟨A9, c9, rfl, hR9, hb9, hA9⟩
        go_wp2
        go_ret
        exact ⟨A9, c9, _, rfl, hR9, PU.out.1, Nat.le_trans PU.out.2 (by omega), B6.out.trans (hb9.mono B6.out.size), fun bk off e hn => .inr (Nat.le_trans B6.out.size (hA9 bk off e))⟩

end Go.Proofs.YtelaimephejkkaaGreat

namespace Go.Proofs.YtelaimephejkkaaGreat
set_option linter.unusedSimpArgs false
set_option linter.unusedVariables false
set_option linter.unnecessarySimpa false
open Go.RowKit

def s9 : Snt := ⟨0, 0, 1, 9, 0, false, false, 0⟩
def l9 : LS := ((LS.new 4 99).send s9).1
def d9 : AckD := ⟨[(0, 0)], [], 9, 9, false⟩
def f9 : List Int := putAckP d9
def o91 : GOut := (GS.new 1 10).take l9 [] 1
def o92 : GOut := o91.g.take o91.s f9 2
def o93 : GOut := o92.g.take o92.s f9 3
theorem vals9 : (o91.v.kind = 1 ∧ o91.v.why = 1 ∧ o91.v.pn = 0 ∧ o91.v.ch = false) ∧ (o92.v.kind = 2 ∧ o92.v.why = 0 ∧ o92.v.pn = 0 ∧ o92.v.ch = false) ∧ o92.a.xo = 9 ∧ (o93.v.kind = 1 ∧ o93.v.why = 3 ∧ o93.v.pn = 0 ∧ o93.v.ch = true) ∧ (o93.g.mal = 1 ∧ o93.g.drp = 1 ∧ o93.g.tak = 1 ∧ o93.g.cha = 1 ∧ o93.g.lat = 0) ∧ o93.g.over = false := by decide +kernel
theorem ok9 : s9.ok := ⟨⟨by simp [s9], by simp [s9]⟩, ⟨by simp [s9], by simp [s9]⟩, ⟨by simp [s9], by simp [s9]⟩, ⟨by simp [s9], by simp [s9]⟩, ⟨by simp [s9], by simp [s9]⟩, ⟨by simp [s9], by simp [s9]⟩⟩

theorem Vd.eq_ {a b : Vd} (h : a.kind = b.kind ∧ a.why = b.why ∧ a.pn = b.pn ∧ a.ch = b.ch) : a = b := by
  obtain ⟨k, w, p, c⟩ := a
  obtain ⟨k', w', p', c'⟩ := b
  obtain ⟨h1, h2, h3, h4⟩ := h
  simp only at h1 h2 h3 h4
  subst h1 h2 h3 h4
  rfl

/-- The program's ledger and guard, clear of N. -/
structure AlC (N : Nat → Prop) (p b : Nat) (s : LS) (g : GS) (W : World) : Prop where
  ex : ∃ T F E, LedP W T p s ∧ GuaP W F E b g ∧ (∀ k, T k → ¬ F k ∧ ¬ E k) ∧ ∀ k, T k ∨ F k ∨ E k → k < W.heap.size ∧ ¬ N k
theorem AlC.good {N : Nat → Prop} {p b : Nat} {s : LS} {g : GS} {W : World} (h : AlC N p b s g W) : s.Good ∧ g.Good := by
  obtain ⟨T, F, E, hL, hG, -⟩ := h.ex
  exact ⟨hL.good, hG.good⟩
/-- What has come is kept clear of. -/
theorem AlC.grow {N : Nat → Prop} {p b : Nat} {s : LS} {g : GS} {W W' : World} (h : AlC N p b s g W) (q : Below W.heap.size W W') : AlC (fun k => N k ∨ (W.heap.size ≤ k ∧ k < W'.heap.size)) p b s g W' := by
  obtain ⟨T, F, E, hL, hG, hd, hs⟩ := h.ex
  refine ⟨T, F, E, hL.below q, hG.below q, hd, fun k hk => ⟨Nat.lt_of_lt_of_le (hs k hk).1 q.size, fun hn => hn.elim (hs k hk).2 (fun e => by have := (hs k hk).1; omega)⟩⟩
theorem AlC.sub {N N' : Nat → Prop} {p b : Nat} {s : LS} {g : GS} {W : World} (h : AlC N p b s g W) (hN : ∀ k, k < W.heap.size → N' k → N k) : AlC N' p b s g W := by
  obtain ⟨T, F, E, hL, hG, hd, hs⟩ := h.ex
  exact ⟨T, F, E, hL, hG, hd, fun k hk => ⟨(hs k hk).1, fun hn => (hs k hk).2 (hN k (hs k hk).1 hn)⟩⟩
theorem AlC.below {N : Nat → Prop} {p b : Nat} {s : LS} {g : GS} {W W' : World} (h : AlC N p b s g W) (q : Below W.heap.size W W') : AlC N p b s g W' := (h.grow q).sub fun _ _ h => .inl h
/-- What turns blocks of N alone. -/
theorem AlC.chg {N Z : Nat → Prop} {p b : Nat} {s : LS} {g : GS} {W W' : World} (h : AlC N p b s g W) (hc : Chg Z W W') (hZ : ∀ k, k < W.heap.size → Z k → N k) : AlC N p b s g W' := by
  obtain ⟨T, F, E, hL, hG, hd, hs⟩ := h.ex
  have hsz := hc.size
  exact ⟨T, F, E, hL.chg hc (fun k hk ht hz => (hs k (.inl ht)).2 (hZ k hk hz)) (fun _ _ h => h), hG.chg hc (fun k hk hf hz => (hs k (.inr hf)).2 (hZ k hk hz)) (fun _ _ h => h) (fun _ _ h => h) hG.dj, hd, fun k hk => ⟨Nat.lt_of_lt_of_le (hs k hk).1 hsz, (hs k hk).2⟩⟩
theorem alc_take (N : Nat → Prop) (p b : Nat) (s : LS) (g : GS) (W : World) (A : Option Addr) (c : Nat) (l : List Int) (now : Int) (h : AlC N p b s g W) (hN : ∀ k, N k → k < W.heap.size) (hr : Rd W 1 A l.length c (U8 l)) (hb : ∀ x ∈ l, 0 ≤ x ∧ x ≤ 255) (hl : l.length ≤ 70368744177664) (hnow : isU64 now) :
    Calls Tryz.prog 18 #[.pointer (some ⟨b, 0, none⟩), .pointer (some ⟨p, 0, none⟩), .slice A l.length c, .int .u64 now] W fun e W' => ∃ a : Ak, e = .returned (.tuple #[(g.take s l now).v.val, a.val]) ∧ a.is (g.take s l now).a ∧ AkE W' (fun k => W.heap.size ≤ k) a ∧ AlC N p b (g.take s l now).s (g.take s l now).g W' ∧ Chg (fun k => ¬ N k) W W' := by
  obtain ⟨T, F, E, hL, hG, hd, hs⟩ := h.ex
  refine (gua_take W T F E p b s g A c l now hL hG (fun k hk => (hs k hk).1) hd hr hb hl hnow).mono ?_
  rintro e W' ⟨a, rfl, ia, hA, lp, ⟨F', E', gp, hF', hE'⟩, hc⟩
  have hsz := hc.size
  refine ⟨a, rfl, ia, hA, ⟨T, fun k => F' k ∧ k < W'.heap.size, fun k => E' k ∧ k < W'.heap.size, lp, gp.sub (fun k hk h => ⟨h, hk⟩) (fun k hk h => ⟨h, hk⟩) (fun k hk hf => gp.dj k hk.1 hf.1), fun k ht => ?_, fun k hk => ?_⟩, hc.mono fun k _ hk hn => hk.elim (fun ht => (hs k (.inl ht)).2 hn) (fun hf => (hs k (.inr (.inl hf))).2 hn)⟩
  · have h1 := (hs k (.inl ht)).1
    exact ⟨fun hf => (hF' k hf.1).elim (hd k ht).1 (fun e => by omega), fun he => (hE' k he.1).elim (hd k ht).2 (fun e => by omega)⟩
  · rcases hk with hk | hk | hk
    · exact ⟨by have := (hs k (.inl hk)).1; omega, (hs k (.inl hk)).2⟩
    · exact ⟨hk.2, fun hn => (hF' k hk.1).elim (fun e => (hs k (.inr (.inl e))).2 hn) (fun e => by have := hN k hn; omega)⟩
    · exact ⟨hk.2, fun hn => (hE' k hk.1).elim (fun e => (hs k (.inr (.inr e))).2 hn) (fun e => by have := hN k hn; omega)⟩
theorem alc_counts (N : Nat → Prop) (p b : Nat) (s : LS) (g : GS) (W : World) (h : AlC N p b s g W) :
    Calls Tryz.prog 17 #[.pointer (some ⟨b, 0, none⟩)] W fun e w' => e = .returned (.agg (ctsRow g)) ∧ Below W.heap.size W w' := by
  obtain ⟨T, F, E, hL, hG, hd, hs⟩ := h.ex
  exact gua_counts W F E b g hG
theorem alc_evidence (N : Nat → Prop) (p b : Nat) (s : LS) (g : GS) (W : World) (h : AlC N p b s g W) :
    Calls Tryz.prog 23 #[.pointer (some ⟨b, 0, none⟩)] W fun e w' => ∃ a, e = .returned (.tuple #[.agg (evRow g.ev a), .bool g.over]) ∧ a.is g.ev.d ∧ AkE w' (fun k => W.heap.size ≤ k) a ∧ Below W.heap.size W w' := by
  obtain ⟨T, F, E, hL, hG, hd, hs⟩ := h.ex
  exact gua_evidence W F E b g hG

set_option maxHeartbeats 8000000 in
set_option maxRecDepth 100000 in
theorem guardAlive (w : World) : Calls Tryz.prog 12 #[] w fun e w' => e = .returned (.bool true) ∧ Below w.heap.size w w' := by
  obtain ⟨V1, V2, V3, V4, V5, V6⟩ := vals9
  have HV1 : Hid (o91.v = ⟨1, 1, 0, false⟩) := Lib.hid (Vd.eq_ V1)
  have HV2 : Hid (o92.v = ⟨2, 0, 0, false⟩) := Lib.hid (Vd.eq_ V2)
  have HV3 := Lib.hid V3
  have HV4 : Hid (o93.v = ⟨1, 3, 0, true⟩) := Lib.hid (Vd.eq_ V4)
  have HV5 := Lib.hid V5
  have HV6 := Lib.hid V6
  clear V1 V2 V3 V4 V5 V6
  have K1 := Lib.hid (gua_new 1 10 w ⟨by omega, by omega⟩)
  go_enter Tryz.func12, Tryz.ntmps12
  go_wp2_with fail
  refine K1.out.mono ?_
  rintro e w1 ⟨b, rfl, hG, hb1⟩
  have K2 := Lib.hid (led_new 4 99 w1 ⟨by omega, by omega⟩)
  have G1 := Lib.hid hG
  have HB1 := Lib.hid hb1
  clear K1 hG hb1
  go_wp2_with fail
  refine K2.out.mono ?_
  rintro e w2 ⟨rfl, hL, hb2⟩
  have hs1 := HB1.out.size
  have hs2 := hb2.size
  have hl := hL.lt
  have K3 := Lib.hid (led_send w2 _ w1.heap.size (LS.new 4 99) s9 hL ok9)
  have G2 := Lib.hid ((G1.out.sub (F' := fun k => w.heap.size ≤ k ∧ k < w1.heap.size) (E' := fun _ => False) (fun k hk h => ⟨h, hk⟩) (fun _ _ h => h) (fun k h => h.elim)).below hb2)
  have HB2 := Lib.hid hb2
  clear K2 hL hb2 G1
  go_wp2_with fail
  refine K3.out.mono ?_
  rintro e w3 ⟨rfl, hL, hc3⟩
  have hs3 := hc3.size
  have A3 : Hid (AlC (fun k => k < w.heap.size) w1.heap.size b l9 (GS.new 1 10) w3) := Lib.hid ⟨fun k => Grow (fun k => k = w1.heap.size) w2 k ∧ k < w3.heap.size, fun k => w.heap.size ≤ k ∧ k < w1.heap.size, fun _ => False,
    (show LedP w3 _ w1.heap.size l9 from hL).sub (fun k hk h => ⟨h, hk⟩), G2.out.chg hc3 (fun k _ hk e => hk.elim (fun h => by have := h.2; have : k = w1.heap.size := e; omega) (fun h => h.elim)) (fun _ _ h => h) (fun _ _ h => h) (fun k h => h.elim),
    fun k hk => ⟨fun h => hk.1.elim (fun e => by have := h.2; omega) (fun e => by have := h.2; omega), fun h => h⟩,
    fun k hk => by
      rcases hk with hk | hk | hk
      · exact ⟨hk.2, fun hn => hk.1.elim (fun e => by omega) (fun e => by omega)⟩
      · exact ⟨by have := hk.2; omega, fun hn => by have := hk.1; omega⟩
      · exact hk.elim⟩
  have B3 : Hid (Below w.heap.size w w3) := Lib.hid ((HB1.out.trans (HB2.out.mono hs1)).trans (hc3.below (by omega) (fun k hk e => by omega)))
  clear K3 hL hc3 G2 HB1 HB2
  -- the frame
  have e4 := box_below w3 (.cells #[.int .u64 0, .int .u64 0] 118)
  have A4 := Lib.hid (A3.out.grow e4)
  have B4 := Lib.hid (B3.out.trans (e4.mono (by omega)))
  have RL : Rd (w3.alloc (.cells #[.int .u64 0, .int .u64 0] 118)) 2 (some ⟨w3.heap.size, 0, none⟩) 1 1 (Ss [(0, 0)]) := Rd.lit_at w3 2 #[.int .u64 0, .int .u64 0] 118 1 (Ss [(0, 0)]) w3.heap.size rfl rfl rfl (by unfold maxLen; omega)
  have KP := Lib.hid (ref_putAck _ ⟨some ⟨w3.heap.size, 0, none⟩, 1, none, 0, [(0, 0)], [], 9, 9, false⟩ ⟨RL, Rd.nil_ _ _, (fun x hx => by simp at hx; subst hx; exact ⟨⟨by decide, by decide⟩, ⟨by decide, by decide⟩⟩), (fun x hx => by cases hx), (⟨by decide, by decide⟩ : isU64 9), (⟨by decide, by decide⟩ : isU64 9)⟩
    ⟨fun x hx => by simp at hx; subst hx; exact ⟨by decide, by decide⟩, List.pairwise_singleton ..⟩ Gd.nil (fun x hx => by simp at hx; subst hx; decide) (fun x hx => by cases hx) (by simp) (by simp))
  have PU := Lib.hid (putAck_u8 (a := d9) ⟨fun x hx => by simp [d9] at hx; subst hx; exact ⟨by decide, by decide⟩, List.pairwise_singleton ..⟩ Gd.nil (fun x hx => by simp [d9] at hx; subst hx; decide) (fun x hx => by cases hx) (by simp [d9]) (by simp [d9]))
  unfold Ak.val Ak.cells at KP
  simp only at KP
  have s4 : (w3.alloc (.cells #[.int .u64 0, .int .u64 0] 118)).heap.size = w3.heap.size + 1 := by simp
  clear RL e4 A3 B3
  go_wp2_with fail
  generalize w3.alloc (.cells #[.int .u64 0, .int .u64 0] 118) = w4 at *
  refine KP.out.mono ?_
  rintro e w5 ⟨A9, c9, rfl, hR9, hb5, hA9⟩
  have A5 := Lib.hid (A4.out.grow hb5)
  have B5 := Lib.hid (B4.out.trans (hb5.mono (by omega)))
  have R5 : Hid (Rd w5 1 A9 f9.length c9 (U8 f9)) := Lib.hid hR9
  have NA9 := Lib.hid hA9
  have R5lt : Hid (∀ bk off, A9 = some ⟨bk, off, none⟩ → 0 < f9.length → bk < w5.heap.size) := Lib.hid (fun bk off e hn => R5.out.lt (by omega) hn bk off e)
  have hs5 := hb5.size
  clear KP A4 B4 hR9 hA9 hb5
  -- the first
  generalize hN : (fun k => ((k < w.heap.size ∨ w3.heap.size ≤ k ∧ k < w4.heap.size) ∨ w4.heap.size ≤ k ∧ k < w5.heap.size)) = N at *
  have hNl : ∀ k, N k → k < w5.heap.size := fun k hk => by rw [← hN] at hk; omega
  have hNw : ∀ k, k < w.heap.size → N k := fun k hk => by rw [← hN]; exact .inl (.inl hk)
  have hNA : ∀ bk off, A9 = some ⟨bk, off, none⟩ → bk < w5.heap.size → N bk := fun bk off e hl => by rw [← hN]; exact .inr ⟨NA9.out bk off e, hl⟩
  have HNW := Lib.hid hNw
  have HNA := Lib.hid hNA
  have HNL := Lib.hid hNl
  have K6 := Lib.hid (alc_take N w1.heap.size b l9 (GS.new 1 10) w5 none 0 [] 1 A5.out hNl (Rd.nil_ _ _) (fun x hx => by cases hx) (by simp) ⟨by omega, by omega⟩)
  rw [show (GS.new 1 10).take l9 [] 1 = o91 from rfl, HV1.out] at K6
  clear hN hNw hNA hNl
  go_wp2_with fail
  refine K6.out.mono ?_
  rintro e w6 ⟨a1, rfl, -, -, hA6, hc6⟩
  have hs6 := hc6.size
  obtain ⟨t1, t2, b7, s7⟩ := boxes2 w6 (.cells #[.int .i64 1, .int .i64 1, .int .u64 0, .bool false] 44) (.cells #[.slice a1.A a1.sp.length a1.c, .slice a1.B a1.mm.length a1.d, .int .u64 a1.tr, .int .u64 a1.xo, .bool a1.od] 56)
  have A7 := Lib.hid (hA6.grow b7)
  have B7 := Lib.hid (((chg_below B5.out (F := fun k => ¬ N k)).step hc6 (fun _ _ h => h)).thenBelow b7 (by have := B5.out.size; omega))
  have R7 := Lib.hid ((R5.out.chg hc6 (fun bk off e hn h => h (HNA.out bk off e (R5.out.lt (by omega) hn bk off e)))).below b7)
  have T1 := Lib.hid t1
  clear K6 t1 t2 b7 A5 B5 R5 hA6 hc6
  unfold Vd.val Ak.val Ak.cells
  simp only
  go_upto_region 7 with fail
  generalize ((w6.alloc (.cells #[.int .i64 1, .int .i64 1, .int .u64 0, .bool false] 44)).alloc (.cells #[.slice a1.A a1.sp.length a1.c, .slice a1.B a1.mm.length a1.d, .int .u64 a1.tr, .int .u64 a1.xo, .bool a1.od] 56)) = w7 at *
  generalize w6.heap.size = h1 at *
  -- the second
  have K8 := Lib.hid (alc_take _ w1.heap.size b o91.s o91.g w7 A9 c9 f9 2 A7.out (fun k hk => hk.elim (fun h => by have := HNL.out k h; omega) (fun h => by omega)) R7.out PU.out.1 (Nat.le_trans PU.out.2 (by omega)) ⟨by omega, by omega⟩)
  rw [show o91.g.take o91.s f9 2 = o92 from rfl, HV2.out] at K8
  go_wp2_with fail
  refine K8.out.mono ?_
  rintro e w8 ⟨a2, rfl, i2, -, hA8, hc8⟩
  have hs8 := hc8.size
  obtain ⟨t2, t3, b9, s9⟩ := boxes2 w8 (.cells #[.int .i64 2, .int .i64 0, .int .u64 0, .bool false] 44) (.cells #[.slice a2.A a2.sp.length a2.c, .slice a2.B a2.mm.length a2.d, .int .u64 a2.tr, .int .u64 a2.xo, .bool a2.od] 56)
  have A9' := Lib.hid (hA8.grow b9)
  have B9 := Lib.hid ((B7.out.step (hc8.mono fun k _ h hn => h (.inl hn)) (fun _ _ h => h)).thenBelow b9 (by have := B7.out.size; omega))
  have R9 := Lib.hid ((R7.out.chg hc8 (fun bk off e hn h => h (.inl (HNA.out bk off e (R5lt.out bk off e hn))))).below b9)
  have T1 := Lib.hid ((b9.block _ (by have := lt_of_block T1.out; omega)).trans (hc8.blk T1.out (fun h => h (.inr ⟨by omega, by omega⟩))))
  have T2 := Lib.hid t2
  have T3 := Lib.hid t3
  have X2 : Hid (a2.xo = 9) := Lib.hid (i2.2.2.2.1.trans HV3.out)
  clear K8 t2 t3 b9 A7 B7 R7 hA8 hc8 i2
  unfold Vd.val Ak.val Ak.cells
  simp only
  go_upto_region 8 with fail
  generalize ((w8.alloc (.cells #[.int .i64 2, .int .i64 0, .int .u64 0, .bool false] 44)).alloc (.cells #[.slice a2.A a2.sp.length a2.c, .slice a2.B a2.mm.length a2.d, .int .u64 a2.tr, .int .u64 a2.xo, .bool a2.od] 56)) = w9 at *
  generalize w8.heap.size = h2 at *
  -- the third
  have K10 := Lib.hid (alc_take _ w1.heap.size b o92.s o92.g w9 A9 c9 f9 3 A9'.out (fun k hk => hk.elim (fun h => h.elim (fun h => by have := HNL.out k h; omega) (fun h => by omega)) (fun h => by omega)) R9.out PU.out.1 (Nat.le_trans PU.out.2 (by omega)) ⟨by omega, by omega⟩)
  rw [show o92.g.take o92.s f9 3 = o93 from rfl, HV4.out] at K10
  go_wp2_with fail
  refine K10.out.mono ?_
  rintro e w10 ⟨a3, rfl, -, -, hA10, hc10⟩
  have hs10 := hc10.size
  obtain ⟨t4, t5, b11, s11⟩ := boxes2 w10 (.cells #[.int .i64 1, .int .i64 3, .int .u64 0, .bool true] 44) (.cells #[.slice a3.A a3.sp.length a3.c, .slice a3.B a3.mm.length a3.d, .int .u64 a3.tr, .int .u64 a3.xo, .bool a3.od] 56)
  have A11 := Lib.hid (hA10.grow b11)
  have B11 := Lib.hid ((B9.out.step (hc10.mono fun k _ h hn => h (.inl (.inl hn))) (fun _ _ h => h)).thenBelow b11 (by have := B9.out.size; omega))
  have T1 := Lib.hid ((b11.block _ (by have := lt_of_block T1.out; omega)).trans (hc10.blk T1.out (fun h => h (.inl (.inr ⟨by omega, by omega⟩)))))
  have T2 := Lib.hid ((b11.block _ (by have := lt_of_block T2.out; omega)).trans (hc10.blk T2.out (fun h => h (.inr ⟨by omega, by omega⟩))))
  have T3 := Lib.hid ((b11.block _ (by have := lt_of_block T3.out; omega)).trans (hc10.blk T3.out (fun h => h (.inr ⟨by omega, by omega⟩))))
  have T4 := Lib.hid t4
  clear K10 t4 t5 b11 A9' B9 R9 hA10 hc10
  unfold Vd.val Ak.val Ak.cells
  simp only
  go_upto_region 9 with fail
  generalize ((w10.alloc (.cells #[.int .i64 1, .int .i64 3, .int .u64 0, .bool true] 44)).alloc (.cells #[.slice a3.A a3.sp.length a3.c, .slice a3.B a3.mm.length a3.d, .int .u64 a3.tr, .int .u64 a3.xo, .bool a3.od] 56)) = w11 at *
  generalize w10.heap.size = h3 at *
  -- counts and evidence
  have K12 := Lib.hid (alc_counts _ _ b o93.s o93.g w11 A11.out)
  obtain ⟨c1, c2, c3, c4, c5⟩ := HV5.out
  unfold ctsRow at K12
  rw [c1, c2, c3, c4, c5] at K12
  go_wp2_with fail
  refine K12.out.mono ?_
  rintro e w12 ⟨rfl, b12⟩
  have e13 := box_below w12 (.cells #[.int .u64 1, .int .u64 1, .int .u64 1, .int .u64 1, .int .u64 0] 52)
  have n13 := heap_alloc_new w12 (.cells #[.int .u64 1, .int .u64 1, .int .u64 1, .int .u64 1, .int .u64 0] 52)
  have hs12 := b12.size
  have A13 := Lib.hid ((A11.out.below b12).below e13)
  have bb := b12.trans (e13.mono hs12)
  have B13 := Lib.hid (B11.out.thenBelow bb B11.out.size)
  have T1 := Lib.hid ((bb.block _ (lt_of_block T1.out)).trans T1.out)
  have T2 := Lib.hid ((bb.block _ (lt_of_block T2.out)).trans T2.out)
  have T3 := Lib.hid ((bb.block _ (lt_of_block T3.out)).trans T3.out)
  have T4 := Lib.hid ((bb.block _ (lt_of_block T4.out)).trans T4.out)
  have T5 := Lib.hid n13
  clear K12 b12 e13 n13 bb A11 B11 c1 c2 c3 c4 c5
  go_upto_region 10 with fail
  generalize (w12.alloc (.cells #[.int .u64 1, .int .u64 1, .int .u64 1, .int .u64 1, .int .u64 0] 52)) = w13 at *
  generalize w12.heap.size = h5 at *
  have K14 := Lib.hid (alc_evidence _ _ b o93.s o93.g w13 A13.out)
  rw [HV6.out] at K14
  go_wp2_with fail
  refine K14.out.mono ?_
  rintro e w14 ⟨a4, rfl, -, -, b14⟩
  have hs14 := b14.size
  have e15 := box_below w14 (.cells (evRow o93.g.ev a4) 65)
  have bb := b14.trans (e15.mono hs14)
  have B15 := Lib.hid (B13.out.thenBelow bb B13.out.size)
  have T1 := (bb.block _ (lt_of_block T1.out)).trans T1.out
  have T2 := (bb.block _ (lt_of_block T2.out)).trans T2.out
  have T3 := (bb.block _ (lt_of_block T3.out)).trans T3.out
  have T4 := (bb.block _ (lt_of_block T4.out)).trans T4.out
  have T5 := (bb.block _ (lt_of_block T5.out)).trans T5.out
  rw [X2.out] at T3
  clear K14 b14 e15 bb A13 B13
  unfold evRow at *
  go_upto_region 11 with fail
  generalize (w14.alloc _) = w15 at *
  have x0 := cell_of_row w15 h1 0 _ _ _ T1
  have fx0 := frozen_of_row w15 h1 0 _ _ T1
  have x1 := cell_of_row w15 h1 1 _ _ _ T1
  have fx1 := frozen_of_row w15 h1 1 _ _ T1
  have x2 := cell_of_row w15 h1 2 _ _ _ T1
  have fx2 := frozen_of_row w15 h1 2 _ _ T1
  have x3 := cell_of_row w15 h1 3 _ _ _ T1
  have fx3 := frozen_of_row w15 h1 3 _ _ T1
  have y0 := cell_of_row w15 h2 0 _ _ _ T2
  have fy0 := frozen_of_row w15 h2 0 _ _ T2
  have y1 := cell_of_row w15 h2 1 _ _ _ T2
  have fy1 := frozen_of_row w15 h2 1 _ _ T2
  have y2 := cell_of_row w15 h2 2 _ _ _ T2
  have fy2 := frozen_of_row w15 h2 2 _ _ T2
  have y3 := cell_of_row w15 h2 3 _ _ _ T2
  have fy3 := frozen_of_row w15 h2 3 _ _ T2
  have z0 := cell_of_row w15 (h2 + 1) 0 _ _ _ T3
  have fz0 := frozen_of_row w15 (h2 + 1) 0 _ _ T3
  have z1 := cell_of_row w15 (h2 + 1) 1 _ _ _ T3
  have fz1 := frozen_of_row w15 (h2 + 1) 1 _ _ T3
  have z2 := cell_of_row w15 (h2 + 1) 2 _ _ _ T3
  have fz2 := frozen_of_row w15 (h2 + 1) 2 _ _ T3
  have z3 := cell_of_row w15 (h2 + 1) 3 _ _ _ T3
  have fz3 := frozen_of_row w15 (h2 + 1) 3 _ _ T3
  have z4 := cell_of_row w15 (h2 + 1) 4 _ _ _ T3
  have fz4 := frozen_of_row w15 (h2 + 1) 4 _ _ T3
  have u0 := cell_of_row w15 h3 0 _ _ _ T4
  have fu0 := frozen_of_row w15 h3 0 _ _ T4
  have u1 := cell_of_row w15 h3 1 _ _ _ T4
  have fu1 := frozen_of_row w15 h3 1 _ _ T4
  have u2 := cell_of_row w15 h3 2 _ _ _ T4
  have fu2 := frozen_of_row w15 h3 2 _ _ T4
  have u3 := cell_of_row w15 h3 3 _ _ _ T4
  have fu3 := frozen_of_row w15 h3 3 _ _ T4
  have v0 := cell_of_row w15 h5 0 _ _ _ T5
  have fv0 := frozen_of_row w15 h5 0 _ _ T5
  have v1 := cell_of_row w15 h5 1 _ _ _ T5
  have fv1 := frozen_of_row w15 h5 1 _ _ T5
  have v2 := cell_of_row w15 h5 2 _ _ _ T5
  have fv2 := frozen_of_row w15 h5 2 _ _ T5
  have v3 := cell_of_row w15 h5 3 _ _ _ T5
  have fv3 := frozen_of_row w15 h5 3 _ _ T5
  have v4 := cell_of_row w15 h5 4 _ _ _ T5
  have fv4 := frozen_of_row w15 h5 4 _ _ T5
  go_wp2
  go_ret
  exact ⟨by simp, B15.out.below (Nat.le_refl _) (fun k hk h => h (HNW.out k hk))⟩

end Go.Proofs.YtelaimephejkkaaGreat

namespace Go.Proofs.YtelaimephejkkaaGreat
set_option linter.unusedSimpArgs false
set_option linter.unusedVariables false
set_option linter.unnecessarySimpa false
open Go.RowKit

def Shs (l : List Sh) : List Value := l.flatMap Sh.vals
structure Shots (w : World) (A : Option Addr) (n c : Nat) (l : List Sh) : Prop where
  rd : Rd w 9 A n c (Shs l)
  ok : ∀ s ∈ l, s.ok w
theorem Shots.below {w w' : World} {A : Option Addr} {n c : Nat} {l : List Sh} (h : Shots w A n c l) (b : Below w.heap.size w w') : Shots w' A n c l := ⟨h.rd.below b, fun s hs => (h.ok s hs).below b⟩
theorem Shots.count {w : World} {A : Option Addr} {n c : Nat} {l : List Sh} (h : Shots w A n c l) : l.length = n := Rd.count (f := Sh.vals) (k := 9) (fun _ => rfl) h.rd (by omega)
/-- The cells of one. -/
structure ShAt (W : World) (bb off : Nat) (s : Sh) : Prop where
  c0 : W.cell? ⟨bb, off, none⟩ = some (.int .i64 s.kind)
  c1 : W.cell? ⟨bb, off + 1, none⟩ = some (.slice s.A s.b.length s.c)
  c2 : W.cell? ⟨bb, off + 2, none⟩ = some (.int .u16 s.k.a)
  c3 : W.cell? ⟨bb, off + 3, none⟩ = some (.int .u16 s.k.b)
  c4 : W.cell? ⟨bb, off + 4, none⟩ = some (.int .u16 s.k.c)
  c5 : W.cell? ⟨bb, off + 5, none⟩ = some (.int .u16 s.k.d)
  c6 : W.cell? ⟨bb, off + 6, none⟩ = some (.int .u64 s.x)
  c7 : W.cell? ⟨bb, off + 7, none⟩ = some (.bool s.right)
  c8 : W.cell? ⟨bb, off + 8, none⟩ = some (.int .u16 s.wait)
theorem Shots.at_ {w : World} {A : Option Addr} {n c : Nat} {l : List Sh} (h : Shots w A n c l) {i : Nat} (hi : i < l.length) : ∃ b off, A = some ⟨b, off, none⟩ ∧ ShAt w b (off + i * 9) l[i] ∧ b < w.heap.size := by
  obtain ⟨b, off, e, hc⟩ := Rd.elem (f := Sh.vals) (k := 9) (fun _ => rfl) h.rd (by omega) hi
  have hn := h.count
  exact ⟨b, off, e, ⟨hc 0 _ rfl, hc 1 _ rfl, hc 2 _ rfl, hc 3 _ rfl, hc 4 _ rfl, hc 5 _ rfl, hc 6 _ rfl, hc 7 _ rfl, hc 8 _ rfl⟩, h.rd.lt (by omega) (by omega) b off e⟩
theorem ShAt.chg {W W' : World} {bb off : Nat} {s : Sh} {Z : Nat → Prop} (h : ShAt W bb off s) (hc : Chg Z W W') (hz : ¬ Z bb) : ShAt W' bb off s :=
  ⟨hc.cell h.c0 hz, hc.cell h.c1 hz, hc.cell h.c2 hz, hc.cell h.c3 hz, hc.cell h.c4 hz, hc.cell h.c5 hz, hc.cell h.c6 hz, hc.cell h.c7 hz, hc.cell h.c8 hz⟩

def P2 (x y : Nat) : Array Value := #[.pointer (some ⟨x, 0, none⟩), .pointer (some ⟨y, 0, none⟩)]
/-- Where a loop over frames for both stands. -/
structure GtS (w : World) (h1 h2 p r a b : Nat) (s : LS) (g : GS) (W : World) : Prop where
  both : ∃ X E, BothG W X E p r a b s g ∧ ∀ k, X k ∨ E k → w.heap.size ≤ k ∧ k ≠ h1 ∧ k ≠ h2
  t1 : W.heap[h1]? = some (.cells (P2 p r) 28 (0, 0))
  t2 : W.heap[h2]? = some (.cells (P2 a b) 36 (0, 0))
  bel : Below w.heap.size w W
  l1 : w.heap.size ≤ h1
  l2 : w.heap.size ≤ h2
  len : s.all.length ≤ 80
theorem GtS.below {w W W' : World} {h1 h2 p r a b : Nat} {s : LS} {g : GS} (h : GtS w h1 h2 p r a b s g W) (q : Below W.heap.size W W') : GtS w h1 h2 p r a b s g W' := by
  obtain ⟨X, E, hB, hX⟩ := h.both
  exact ⟨⟨X, E, hB.below q, hX⟩, (q.block _ (lt_of_block h.t1)).trans h.t1, (q.block _ (lt_of_block h.t2)).trans h.t2, h.bel.trans (q.mono h.bel.size), h.l1, h.l2, h.len⟩
theorem GtS.sgood {w W : World} {h1 h2 p r a b : Nat} {s : LS} {g : GS} (h : GtS w h1 h2 p r a b s g W) : s.Good := by
  obtain ⟨X, E, hB, hX⟩ := h.both
  exact hB.sgood
/-- The cells that the region reads. -/
def GtK (h1 h2 p r a b bb off : Nat) (sh : Sh) (W : World) : Prop :=
  W.cell? ⟨h2, 0, none⟩ = some (.pointer (some ⟨a, 0, none⟩)) ∧ W.cell? ⟨h2, 1, none⟩ = some (.pointer (some ⟨b, 0, none⟩)) ∧ W.cell? ⟨h1, 0, none⟩ = some (.pointer (some ⟨p, 0, none⟩)) ∧ W.cell? ⟨h1, 1, none⟩ = some (.pointer (some ⟨r, 0, none⟩)) ∧
  W.cell? ⟨bb, off, none⟩ = some (.int .i64 sh.kind) ∧ W.cell? ⟨bb, off + 1, none⟩ = some (.slice sh.A sh.b.length sh.c) ∧ W.cell? ⟨bb, off + 2, none⟩ = some (.int .u16 sh.k.a) ∧ W.cell? ⟨bb, off + 3, none⟩ = some (.int .u16 sh.k.b) ∧ W.cell? ⟨bb, off + 4, none⟩ = some (.int .u16 sh.k.c) ∧ W.cell? ⟨bb, off + 5, none⟩ = some (.int .u16 sh.k.d) ∧ W.cell? ⟨bb, off + 6, none⟩ = some (.int .u64 sh.x) ∧ W.cell? ⟨bb, off + 7, none⟩ = some (.bool sh.right) ∧ W.cell? ⟨bb, off + 8, none⟩ = some (.int .u16 sh.wait)
theorem GtK.of {h1 h2 p r a b bb off : Nat} {sh : Sh} {W : World} (t1 : W.heap[h1]? = some (.cells (P2 p r) 28 (0, 0))) (t2 : W.heap[h2]? = some (.cells (P2 a b) 36 (0, 0))) (h : ShAt W bb off sh) : GtK h1 h2 p r a b bb off sh W :=
  ⟨cell_of_row W h2 0 _ _ _ t2, cell_of_row W h2 1 _ _ _ t2, cell_of_row W h1 0 _ _ _ t1, cell_of_row W h1 1 _ _ _ t1, h.c0, h.c1, h.c2, h.c3, h.c4, h.c5, h.c6, h.c7, h.c8⟩
theorem GtK.chg {h1 h2 p r a b bb off : Nat} {sh : Sh} {W W' : World} {Z : Nat → Prop} (h : GtK h1 h2 p r a b bb off sh W) (hc : Chg Z W W') (z1 : ¬ Z h1) (z2 : ¬ Z h2) (z3 : ¬ Z bb) : GtK h1 h2 p r a b bb off sh W' := by
  obtain ⟨e1, e2, e3, e4, c0, c1, c2, c3, c4, c5, c6, c7, c8⟩ := h
  exact ⟨hc.cell e1 z2, hc.cell e2 z2, hc.cell e3 z1, hc.cell e4 z1, hc.cell c0 z3, hc.cell c1 z3, hc.cell c2 z3, hc.cell c3 z3, hc.cell c4 z3, hc.cell c5 z3, hc.cell c6 z3, hc.cell c7 z3, hc.cell c8 z3⟩
/-- What a region of a frame and its take leaves, wherever its variable is made. -/
structure GtTook (w wr W vB : World) (h1 h2 p r a b : Nat) (o : GOut) : Prop where
  bel : Below wr.heap.size wr W
  both : ∃ X E, BothG vB X E p r a b o.s o.g ∧ ∀ k, X k ∨ E k → (w.heap.size ≤ k ∧ k < wr.heap.size ∧ k ≠ h1 ∧ k ≠ h2) ∨ W.heap.size ≤ k
  chg : Chg (fun k => w.heap.size ≤ k ∧ k < wr.heap.size ∧ k ≠ h1 ∧ k ≠ h2) W vB
theorem take_len (g : GS) (s : LS) (f : List Int) (now : Int) : (g.take s f now).s.all.length = s.all.length := by
  have hu : ∀ x, (s.use x).1.all.length = s.all.length := fun x => by
    unfold LS.use
    split
    · simp [LS.put]
    · rfl
  rcases GS.take_cases g s f now with ⟨-, e⟩ | ⟨-, e⟩ | ⟨-, d, -, ⟨y, -, -, e⟩ | ⟨x, y, z, -, -, -, e⟩ | ⟨x, -, -, e⟩⟩ <;> rw [e]
  · exact hu x
  · exact hu x
theorem GtS.close {w wr W vB wx : World} {h1 h2 p r a b : Nat} {s : LS} {g : GS} {f : List Int} {now : Int} (h : GtS w h1 h2 p r a b s g wr) (t : GtTook w wr W vB h1 h2 p r a b (g.take s f now)) (hx : Chg (fun k => wr.heap.size ≤ k ∧ k < W.heap.size) vB wx) : GtS w h1 h2 p r a b (g.take s f now).s (g.take s f now).g wx := by
  obtain ⟨X, E, hB, hX⟩ := t.both
  have e1 := lt_of_block h.t1
  have e2 := lt_of_block h.t2
  have s1 := t.bel.size
  have s2 := h.bel.size
  have s3 := t.chg.size
  have t1 := (t.bel.block _ e1).trans h.t1
  have t2 := (t.bel.block _ e2).trans h.t2
  have u1 := t.chg.blk t1 (fun e => e.2.2.1 rfl)
  have u2 := t.chg.blk t2 (fun e => e.2.2.2 rfl)
  refine ⟨⟨X, E, hB.chg hx (fun k _ hk e => (hX k hk).elim (fun h => by omega) (fun h => by omega)), fun k hk => (hX k hk).elim (fun h => ⟨h.1, h.2.2⟩) (fun h => by omega)⟩, hx.blk u1 (fun e => by omega), hx.blk u2 (fun e => by omega), ?_, h.l1, h.l2, by rw [take_len]; exact h.len⟩
  exact ((h.bel.trans (t.bel.mono s2)).trans (t.chg.below (by omega) (fun k hk e => by omega))).trans (hx.below (by omega) (fun k hk e => by omega))
/-- The frame of one, at whatever world the region has come to. -/
theorem gt_frame {w wr : World} {h1 h2 p r a b : Nat} {s : LS} {g : GS} (h : GtS w h1 h2 p r a b s g wr) (sh : Sh) (hs : sh.ok wr) (W : World) (q : Below wr.heap.size wr W) :
    Calls Tryz.prog 14 #[sh.val, .agg #[.pointer (some ⟨p, 0, none⟩), .pointer (some ⟨r, 0, none⟩)]] W fun e w' => FrameVal W w' sh e := by
  obtain ⟨X, E, hB, hX⟩ := h.both
  exact frame_any W X p r s sh (hB.two.toR.below q) h.len (hs.below q)
theorem gt_take {w wr : World} {h1 h2 p r a b : Nat} {s : LS} {g : GS} (h : GtS w h1 h2 p r a b s g wr) (sh : Sh) (hs : sh.ok w) (now : Int) (hnow : isU64 now) (hga : g.b.all.length ≤ 1000000) (W : World) (q : Below wr.heap.size wr W) (A : Option Addr) (c : Nat) (f : List Int)
    (hr : Rd W 1 A f.length c (U8 f)) (hb : ∀ x ∈ f, 0 ≤ x ∧ x ≤ 255) (hl : f.length ≤ 70368744177664) (hA : ∀ bk off, A = some ⟨bk, off, none⟩ → 0 < f.length → (∃ off', sh.A = some ⟨bk, off', none⟩ ∧ 0 < sh.b.length) ∨ wr.heap.size ≤ bk) :
    Calls Tryz.prog 13 #[.agg #[.pointer (some ⟨a, 0, none⟩), .pointer (some ⟨b, 0, none⟩)], .agg #[.pointer (some ⟨p, 0, none⟩), .pointer (some ⟨r, 0, none⟩)], .slice A f.length c, .int .u64 now] W fun e w' =>
      e = .returned (.tuple #[.agg #[.int .i64 (g.take s f now).v.kind, .int .i64 (g.take s f now).v.why, .int .u64 (g.take s f now).v.pn, .bool (g.take s f now).v.ch], .bool true]) ∧ GtTook w wr W w' h1 h2 p r a b (g.take s f now) := by
  obtain ⟨X, E, hB, hX⟩ := h.both
  have hB' : BothG wr (fun k => X k ∧ k < wr.heap.size) E p r a b s g := hB.sub (fun k hk hx => ⟨hx, hk⟩) (fun k he hx => by
    obtain ⟨G, H, F1, F2, hC⟩ := hB
    exact (hC.ev k he).1 hx.1)
  have hEl : ∀ k, E k → k < wr.heap.size := fun k he => by
    obtain ⟨G, H, F1, F2, hC⟩ := hB
    exact (hC.ev k he).2
  have sz := q.size
  refine (both_take W _ E p r a b s g A c f now (hB'.below q) hr (fun bk off e hn hx => ?_) hb hl hnow hga).mono ?_
  · rcases hA bk off e hn with ⟨off', e', hn'⟩ | hk
    · have h1 := hs.r.lt (by omega) hn' bk off' e'
      have h2 := (hX bk (.inl hx.1)).1
      omega
    · have := hx.2; omega
  · rintro e w' ⟨rfl, ⟨X', E', hB2, hX', hE'⟩, hc⟩
    refine ⟨rfl, q, ⟨X', E', hB2, fun k hk => ?_⟩, hc.mono fun k _ hk => ⟨(hX k (.inl hk.1)).1, hk.2, (hX k (.inl hk.1)).2⟩⟩
    rcases hk with hk | hk
    · exact (hX' k hk).elim (fun e => .inl ⟨(hX k (.inl e.1)).1, e.2, (hX k (.inl e.1)).2⟩) .inr
    · exact (hE' k hk).elim (fun e => .inl ⟨(hX k (.inr e)).1, hEl k e, (hX k (.inr e)).2⟩) .inr
end Go.Proofs.YtelaimephejkkaaGreat
